/-
  Own work. Maps, walks through them, and values of interfaces: each operation of the abstract run is the model's.
-/
import Derived.Test.YtnlmnejellipdaaGreatXStep3
import Derived.MapKept
namespace Go.Proofs.YtnlmnejellipdaaGreat.X
open Go
set_option linter.unusedVariables false
set_option linter.unusedSimpArgs false

section
variable {P : Program} {ρ : Rho} {N : Nat} {e : Env} {a : Act} {m : Mem} {w : World} {r : XR}

theorem good_of {s : Sem Value} {o : Oper} {v : Value} {m' : Mem} (he : execOp a.eval o = (do pure (Next.value (← s)))) (h : ∃ ρ' v' w', s.run P w = .ok v' w' ∧ VRel ρ' v v' ∧ Step ρ m w ρ' m' w') :
    Good P ρ m w ((execOp a.eval o).run P w) (.val v m') := by
  obtain ⟨ρ', v', w', h1, h2, h3⟩ := h
  exact ⟨ρ', v', w', by rw [he]; exact run_v h1, h2, h3⟩

theorem good_same {s : Sem Value} {o : Oper} {v : Value} (he : execOp a.eval o = (do pure (Next.value (← s)))) (hR : Rel ρ m w) (h : ∃ v', s.run P w = .ok v' w ∧ VRel ρ v v') :
    Good P ρ m w ((execOp a.eval o).run P w) (.val v m) := by
  obtain ⟨v', h1, h2⟩ := h
  exact good_of he ⟨ρ, v', w, h1, h2, .refl hR⟩

theorem good_plain {s s' : Sem Value} {o : Oper} {v : Value} (he : execOp a.eval o = (do pure (Next.value (← s)))) (hR : Rel ρ m w) (hs : s = s') (h : ans P s' = some v) (hp : plain v = true) :
    Good P ρ m w ((execOp a.eval o).run P w) (.val v m) := by
  subst hs
  exact good_same he hR ⟨v, ans_run h w, .refl hp⟩

theorem bind_some' {α β : Type} {x : Option α} {f : α → Option β} {b : β} (h : x.bind f = some b) : ∃ a, x = some a ∧ f a = some b := by
  cases x with
  | none => simp at h
  | some a => exact ⟨a, rfl, by simpa using h⟩
theorem map_some' {α β : Type} {x : Option α} {f : α → β} {b : β} (h : x.map f = some b) : ∃ a, x = some a ∧ f a = b := by
  cases x with
  | none => simp at h
  | some a => exact ⟨a, rfl, by simpa using h⟩
theorem ite_some' {α : Type} {c : Prop} [Decidable c] {x : Option α} {b : α} (h : (if c then x else none) = some b) : c ∧ x = some b := by
  by_cases hc : c
  · rw [if_pos hc] at h; exact ⟨hc, h⟩
  · rw [if_neg hc] at h; cases h

theorem exec_builtin {o : Oper} {c : Call} {b : Builtin} (ho : o.op = .call c) (hcb : c.callee = .builtin b) :
    execOp a.eval o = builtin b c.argTypes o.type (c.args.map fun | .const _ => true | _ => false) (c.args.map a.eval) := by
  simp only [execOp, ho, resolve, hcb, pure_bind, invoke]
  rfl

theorem args_two {c : Call} {s x : Operand} (h : c.args.toList = [s, x]) : c.args.map a.eval = #[a.eval s, a.eval x] := by
  rw [← Array.toArray_toList (xs := c.args), h]; simp
theorem args_one {c : Call} {x : Operand} (h : c.args.toList = [x]) : c.args.map a.eval = #[a.eval x] := by
  rw [← Array.toArray_toList (xs := c.args), h]; simp


/-! ## What is no row of cells -/
def noCells : Obj → Bool
  | .cells _ _ _ => false
  | _ => true
/-- Another one in its place. -/
def setB (w : World) (b : Nat) (o : Obj) : World := { w with heap := w.heap.setIfInBounds b o }
theorem setB_get {b k : Nat} {o : Obj} (h : b < w.heap.size) : (setB w b o).heap[k]? = if b = k then some o else w.heap[k]? := by
  simp only [setB]
  by_cases hk : b = k
  · subst hk; simp [h]
  · simp [hk]
theorem frozen_none {b : Nat} {o : Obj} {x : Addr} (h : w.heap[b]? = some o) (hn : noCells o = true) (hx : x.block = b) : w.frozen? x = false := by
  unfold World.frozen?
  rw [hx, h]
  cases o <;> first | rfl | cases hn
theorem cell_none {b j : Nat} {o : Obj} (h : w.heap[b]? = some o) (hn : noCells o = true) : w.cell? ⟨b, j, none⟩ = none := by
  unfold World.cell?
  rw [h]
  cases o <;> first | rfl | cases hn

theorem ext_step {b : Nat} {o : XObj} {c : Co} {x : XExt} {old new : Obj} (hR : Rel ρ m w) (hg : m.get b = some o) (hc : ρ b = some c) (hrw : o.rw = true) (hsp : o.spare = none) (hk : o.kin = []) (hcells : o.cells = [])
    (hold : w.heap[c.blk]? = some old) (hno : noCells old = true) (hnn : noCells new = true) (hx : ExtRel ρ (setB w c.blk new) [] c x) : Step ρ m w ρ (m.set b { o with ext := x }) (setB w c.blk new) := by
  have hO := hR.obj _ _ _ hg hc
  have hlt := hO.lt
  have hget : ∀ i oi, (m.set b { o with ext := x }).get i = some oi → (i = b ∧ oi = { o with ext := x }) ∨ (i ≠ b ∧ m.get i = some oi) := by
    intro i oi hi
    rw [Mem.get_set] at hi
    by_cases h : b = i
    · rw [if_pos h] at hi; cases hi; exact .inl ⟨h.symm, rfl⟩
    · rw [if_neg h] at hi; exact .inr ⟨fun e => h e.symm, hi⟩
  have hoth : ∀ k, k ≠ c.blk → (setB w c.blk new).heap[k]? = w.heap[k]? := fun k hk => by rw [setB_get hlt, if_neg (Ne.symm hk)]
  have hblk : ∀ i oi ci, i ≠ b → m.get i = some oi → ρ i = some ci → ci.blk ≠ c.blk := fun i oi ci hne hi hci hb => by
    have := (hR.excl b i o oi c ci (Ne.symm hne) hg hi hc hci hrw hb.symm).1
    rw [hk] at this
    cases this
  have hfz : ∀ y, (setB w c.blk new).frozen? y = w.frozen? y := fun y => by
    by_cases hy : y.block = c.blk
    · rw [frozen_none hold hno hy, frozen_none (b := c.blk) (o := new) (by rw [setB_get hlt, if_pos rfl]) hnn hy]
    · unfold World.frozen?
      rw [hoth _ hy]
  refine ⟨.refl _, ⟨?_, ?_, ?_, ?_⟩, ⟨by simp [setB], ?_, rfl, rfl, rfl, hfz⟩, ⟨?_⟩, by simp, ?_, fun _ _ h => h⟩
  · intro i oi ci hi hci
    rcases hget i oi hi with ⟨rfl, rfl⟩ | ⟨hne, hi'⟩
    · rw [hc] at hci
      cases hci
      refine ⟨by simpa [setB] using hlt, fun j v hj => ?_, fun _ j => (by rw [hfz]; exact hO.free hrw j), hO.esz, hO.kin, fun _ s hs => (by simp only at hs; rw [hsp] at hs; cases hs), ?_⟩
      · simp only [hcells] at hj; simp at hj
      · simp only [hcells]; exact hx
    · exact (hR.obj i oi ci hi' hci).later (.refl _) (by simp [setB]) (hoth _ (hblk i oi ci hne hi' hci))
  · intro i j oi oj ci cj hij hi hj hci hcj hirw hb
    rcases hget i oi hi with ⟨rfl, rfl⟩ | ⟨hne, hi'⟩
    · rcases hget j oj hj with ⟨rfl, rfl⟩ | ⟨hne', hj'⟩
      · exact absurd rfl hij
      · exact hR.excl i j o oj ci cj hij hg hj' hci hcj hrw hb
    · rcases hget j oj hj with ⟨rfl, rfl⟩ | ⟨hne', hj'⟩
      · exact hR.excl i j oi o ci cj hij hi' hg hci hcj hirw hb
      · exact hR.excl i j oi oj ci cj hij hi' hj' hci hcj hirw hb
  · intro i hi; simp at hi; exact hR.fresh i hi
  · intro i oi hi
    simp only [Mem.next_set]
    rcases hget i oi hi with ⟨rfl, _⟩ | ⟨_, hi'⟩
    · exact hR.alive _ _ hg
    · exact hR.alive _ _ hi'
  · intro k hk hn
    exact hoth k (Ne.symm (hn b o c hg hrw hc))
  · intro i oi ci hi hirw hci
    rcases hget i oi hi with ⟨rfl, rfl⟩ | ⟨hne, hi'⟩
    · exact .inr ⟨i, o, ci, hg, hrw, hci, rfl⟩
    · exact .inr ⟨i, oi, ci, hi', hirw, hci, rfl⟩
  · intro i _ hn
    rw [Mem.get_set, if_neg (fun h => by rw [h] at hc; rw [hc] at hn; cases hn)]

theorem push_ext_step {x : XExt} {new : Obj} (hR : Rel ρ m w) (hnn : noCells new = true) (hx : ExtRel (ρ.with m.next ⟨w.heap.size, 0, 0, 0⟩) (w.alloc new) [] ⟨w.heap.size, 0, 0, 0⟩ x) :
    Step ρ m w (ρ.with m.next ⟨w.heap.size, 0, 0, 0⟩) (m.push { cells := [], rw := true, spare := none, kin := [], ext := x }) (w.alloc new) := by
  have hf : ρ m.next = none := hR.fresh _ (Nat.le_refl _)
  have hxt := Rho.with_ext ⟨w.heap.size, 0, 0, 0⟩ hf
  have hblk : ∀ k, k < w.heap.size → (w.alloc new).heap[k]? = w.heap[k]? := fun k hk => heap_alloc_old w _ hk
  have hnew : (w.alloc new).heap[w.heap.size]? = some new := (MapKept.heap_alloc w _).1
  have hget : ∀ i oi, (m.push { cells := [], rw := true, spare := none, kin := [], ext := x }).get i = some oi → (i = m.next ∧ oi = { cells := [], rw := true, spare := none, kin := [], ext := x }) ∨ (i ≠ m.next ∧ m.get i = some oi) := by
    intro i oi hi
    rw [Mem.get_push] at hi
    by_cases h : m.next = i
    · rw [if_pos h] at hi; cases hi; exact .inl ⟨h.symm, rfl⟩
    · rw [if_neg h] at hi; exact .inr ⟨fun e => h e.symm, hi⟩
  have hat : (ρ.with m.next ⟨w.heap.size, 0, 0, 0⟩) m.next = some ⟨w.heap.size, 0, 0, 0⟩ := by simp [Rho.with]
  have hoff : ∀ i, i ≠ m.next → (ρ.with m.next ⟨w.heap.size, 0, 0, 0⟩) i = ρ i := fun i h => by simp [Rho.with, h]
  have hfz : ∀ y, (w.alloc new).frozen? y = w.frozen? y := fun y => by
    by_cases hy : y.block = w.heap.size
    · rw [frozen_none hnew hnn hy]
      unfold World.frozen?
      rw [hy]
      simp
    · exact World.frozen?_alloc_old _ _ _ hy
  refine ⟨hxt, ⟨?_, ?_, ?_, ?_⟩, ⟨by simp, fun b hb _ => hblk b hb, rfl, rfl, rfl, hfz⟩, ⟨?_⟩, by simp, ?_, ?_⟩
  · intro i oi ci hi hci
    rcases hget i oi hi with ⟨rfl, rfl⟩ | ⟨hne, hi'⟩
    · rw [hat] at hci
      cases hci
      exact ⟨by simp, fun j v hj => (by simp at hj), fun _ j => frozen_none hnew hnn rfl, fun s hs => (by cases hs), fun k hk => (by simp at hk), fun _ s hs => (by cases hs), hx⟩
    · rw [hoff i hne] at hci
      have hO := hR.obj i oi ci hi' hci
      exact hO.later hxt (by simp) (hblk _ hO.lt)
  · intro i j oi oj ci cj hij hi hj hci hcj hirw hb
    rcases hget i oi hi with ⟨rfl, rfl⟩ | ⟨hne, hi'⟩
    · rcases hget j oj hj with ⟨rfl, rfl⟩ | ⟨hne', hj'⟩
      · exact absurd rfl hij
      · rw [hat] at hci
        rw [hoff j hne'] at hcj
        cases hci
        have := (hR.obj j oj cj hj' hcj).lt
        simp only at hb; omega
    · rw [hoff i hne] at hci
      rcases hget j oj hj with ⟨rfl, rfl⟩ | ⟨hne', hj'⟩
      · rw [hat] at hcj
        cases hcj
        have := (hR.obj i oi ci hi' hci).lt
        simp only at hb; omega
      · rw [hoff j hne'] at hcj
        exact hR.excl i j oi oj ci cj hij hi' hj' hci hcj hirw hb
  · intro i hi
    simp only [Mem.next_push] at hi
    rw [hoff i (by omega)]
    exact hR.fresh i (by omega)
  · intro i oi hi
    simp only [Mem.next_push]
    rcases hget i oi hi with ⟨rfl, _⟩ | ⟨_, hi'⟩
    · omega
    · have := hR.alive i oi hi'; omega
  · intro i oi ci hi hirw hci
    rcases hget i oi hi with ⟨rfl, rfl⟩ | ⟨hne, hi'⟩
    · rw [hat] at hci; cases hci; exact .inl (Nat.le_refl _)
    · rw [hoff i hne] at hci
      exact .inr ⟨i, oi, ci, hi', hirw, hci, rfl⟩
  · intro i hi _
    rw [Mem.get_push, if_neg (by omega)]
  · intro i hi hn
    rw [hoff i (by omega)]; exact hn

/-! ## Keys -/
def kindK : Bool → TypeDesc → Bool
  | true, .int _ => true
  | false, .string => true
  | _, _ => false
theorem bytes_same (x y : ByteArray) : (x == y) = (x.data.toList == y.data.toList) := by
  obtain ⟨d⟩ := x
  obtain ⟨d'⟩ := y
  show (d == d') = _
  by_cases h : d = d'
  · subst h; simp
  · have : ¬ d.toList = d'.toList := fun q => h (Array.toList_inj.1 q)
    simp [h, this]
theorem sameK_now {ki : Bool} {d : TypeDesc} {k k' : Value} {b : Bool} (hd : kindK ki d = true) (h : sameK ki k k' = some b) : Instr.sameNow d k k' = some b := by
  cases ki <;> cases d <;> simp only [kindK, Bool.false_eq_true] at hd <;> cases k <;> cases k' <;> simp only [sameK, reduceCtorEq] at h
  · simp only [Instr.sameNow, bytes_same]; exact h
  · simp only [Instr.sameNow]; exact h
theorem find_rel {ki : Bool} {d : TypeDesc} {k : Value} (hd : kindK ki d = true) : ∀ {es : List (Value × Value × Nat)} {es' : List MapEntry} {i : Nat} {r : Option (Nat × Value)}, EsRel ρ es es' → findK ki k es i = some r →
    (r = none ∧ Instr.findNow d k es' i = some none) ∨ ∃ j v v' key b, r = some (i + j, v) ∧ Instr.findNow d k es' i = some (some (i + j, v')) ∧ VRel ρ v v' ∧ es[j]? = some (key, v, b) ∧ es'[j]? = some ⟨key, v', b⟩ ∧ sameK ki k key = some true
  | [], _, i, r, .nil, h => by
    simp only [findK, Option.some.injEq] at h
    exact .inl ⟨h.symm, rfl⟩
  | (k1, v1, b1) :: es, _, i, r, .cons hk hv t, h => by
    rename_i v' es'
    simp only [findK] at h
    cases hs : sameK ki k k1 with
    | none => rw [hs] at h; cases h
    | some s =>
      rw [hs] at h
      have hs' := sameK_now hd hs
      cases s with
      | true =>
        simp only [Option.some.injEq] at h
        exact .inr ⟨0, v1, v', k1, b1, h.symm, by simp [Instr.findNow, hs'], hv, rfl, rfl, hs⟩
      | false =>
        simp only at h
        rcases find_rel hd t h with ⟨h1, h2⟩ | ⟨j, v, v2, key, b, h1, h2, h3, h4, h5, h6⟩
        · exact .inl ⟨h1, by simp [Instr.findNow, hs', h2]⟩
        · exact .inr ⟨j + 1, v, v2, key, b, by rw [h1, show i + 1 + j = i + (j + 1) by omega], by simp [Instr.findNow, hs', h2]; omega, h3, by simpa using h4, by simpa using h5, h6⟩
theorem key_kept {ki : Bool} {k k' : Value} (h : sameK ki k k' = some true) (n : Nat) : Instr.sameBits n k' k = true := by
  cases ki <;> cases k <;> cases k' <;> simp only [sameK, reduceCtorEq] at h
  · rename_i x y
    have : (y == x) = true := by
      rw [bytes_same]
      simp at h
      rw [h]; simp
    cases n <;> simp [Instr.sameBits, this]
  · rename_i k1 a k2 b
    split at h
    · rename_i hk
      simp at h
      subst hk h
      cases n <;> simp [Instr.sameBits]
    · cases h
theorem sameK_eq {ki : Bool} {k k' : Value} (h : sameK ki k k' = some true) : k = k' := by
  cases ki <;> cases k <;> cases k' <;> simp only [sameK, reduceCtorEq] at h
  · rename_i x y
    obtain ⟨x⟩ := x
    obtain ⟨y⟩ := y
    simp at h
    rw [h]
  · split at h
    · rename_i hk
      simp at h
      rw [hk, h]
    · cases h
theorem run_keyStays {ki : Bool} {k k' : Value} (h : sameK ki k k' = some true) : (Instr.keyThatStays k' k).run P w = .ok k w := by
  unfold Instr.keyThatStays
  rw [if_pos (key_kept h 10000)]
  rfl
theorem run_key {ki : Bool} {d : TypeDesc} {kt : TypeId} {k : Value} {em : Bool} (hu : P.underlying kt = some d) (hd : kindK ki d = true) (hk : keyK ki k = true) : (Instr.checkKey em 10000 kt k).run P w = .ok () w := by
  show (Instr.checkKey em (9999 + 1) kt k).run P w = .ok () w
  unfold Instr.checkKey
  simp only [Sem.run_bind, run_underlying hu, Result.andThen]
  cases ki <;> cases d <;> simp only [kindK, Bool.false_eq_true] at hd <;> cases k <;> simp only [keyK, Bool.false_eq_true] at hk <;> rfl
theorem key_plain {ki : Bool} {k : Value} (hk : keyK ki k = true) : plainV k = true ∧ plain k = true := by
  cases ki <;> cases k <;> simp only [keyK, Bool.false_eq_true] at hk <;> exact ⟨rfl, rfl⟩

/-! ## Entries -/
theorem EsRel.length : ∀ {es : List (Value × Value × Nat)} {es' : List MapEntry}, EsRel ρ es es' → es'.length = es.length
  | _, _, .nil => rfl
  | _, _, .cons _ _ t => by simp [EsRel.length t]
theorem EsRel.set : ∀ {es : List (Value × Value × Nat)} {es' : List MapEntry} {i : Nat} {v v' k key : Value} {b : Nat}, EsRel ρ es es' → VRel ρ v v' → es[i]? = some (key, k, b) → plainV key = true →
    EsRel ρ (setV es i v) (es'.modify i fun e => { e with key := key, val := v' })
  | [], _, i, v, v', k, key, b, h, hv, hi, hk => by simp at hi
  | (k1, v1, b1) :: es, _, 0, v, v', k, key, b, .cons hk1 hv1 t, hv, hi, hk => by
    simp only [List.getElem?_cons_zero, Option.some.injEq, Prod.mk.injEq] at hi
    obtain ⟨rfl, rfl, rfl⟩ := hi
    simpa [setV] using EsRel.cons hk hv t
  | (k1, v1, b1) :: es, _, i + 1, v, v', k, key, b, .cons hk1 hv1 t, hv, hi, hk => by
    simp only [List.getElem?_cons_succ] at hi
    simpa [setV] using EsRel.cons hk1 hv1 (EsRel.set t hv hi hk)
theorem EsRel.push : ∀ {es : List (Value × Value × Nat)} {es' : List MapEntry} {k v v' : Value} {b : Nat}, EsRel ρ es es' → plainV k = true → VRel ρ v v' → EsRel ρ (es ++ [(k, v, b)]) (es' ++ [⟨k, v', b⟩])
  | _, _, _, _, _, _, .nil, hk, hv => .cons hk hv .nil
  | _, _, _, _, _, _, .cons h1 h2 t, hk, hv => .cons h1 h2 (EsRel.push t hk hv)
theorem EsRel.erase : ∀ {es : List (Value × Value × Nat)} {es' : List MapEntry} (i : Nat), EsRel ρ es es' → EsRel ρ (es.eraseIdx i) (es'.eraseIdx i)
  | _, _, _, .nil => by simpa using EsRel.nil
  | _, _, 0, .cons h1 h2 t => by simpa using t
  | _, _, i + 1, .cons h1 h2 t => by simpa using EsRel.cons h1 h2 (EsRel.erase i t)
theorem EsRel.get : ∀ {es : List (Value × Value × Nat)} {es' : List MapEntry} {i : Nat} {k v : Value} {b : Nat}, EsRel ρ es es' → es[i]? = some (k, v, b) → plainV k = true ∧ ∃ v', es'[i]? = some ⟨k, v', b⟩ ∧ VRel ρ v v'
  | _, _, i, k, v, b, .nil, h => by simp at h
  | _, _, 0, k, v, b, .cons h1 h2 t, h => by
    simp only [List.getElem?_cons_zero, Option.some.injEq, Prod.mk.injEq] at h
    obtain ⟨rfl, rfl, rfl⟩ := h
    exact ⟨h1, _, rfl, h2⟩
  | _, _, i + 1, k, v, b, .cons h1 h2 t, h => by
    simp only [List.getElem?_cons_succ] at h
    simpa using EsRel.get t h

/-! ## Operations -/
theorem mapP_spec {t : TypeId} {p : Bool × TypeId} (h : mapP P t = some p) : ∃ kt d, P.underlying t = some (.map kt p.2) ∧ P.underlying kt = some d ∧ kindK p.1 d = true := by
  unfold mapP at h
  split at h
  case h_2 => cases h
  rename_i k el hu
  split at h
  · rename_i hk; cases h; exact ⟨_, _, hu, hk, rfl⟩
  · rename_i hk; cases h; exact ⟨_, _, hu, hk, rfl⟩
  · cases h
theorem zeroV_spec {t : TypeId} {z : Value} (h : zeroV P t = some z) : (∀ w, (zeroValue t).run P w = .ok z w) ∧ plain z = true ∧ noTup z = true := by
  unfold zeroV at h
  obtain ⟨i, hi, h⟩ := bind_some' h
  obtain ⟨z1, hz, h⟩ := bind_some' h
  obtain ⟨hp, h⟩ := ite_some' h
  cases h
  simp only [Bool.and_eq_true] at hp
  exact ⟨fun w => by simp [zeroValue, typeInfo, hi, hz], hp.1, hp.2⟩
theorem map_rel {v v' : Value} {b : Nat} (hv : VRel ρ v v') (h : v = .map (some b)) : ∃ c, ρ b = some c ∧ v' = .map (some c.blk) := by
  subst h
  cases hv with
  | cell h => cases h with
    | plain h => simp [plainV] at h
    | map h => exact ⟨_, h, rfl⟩
theorem ptr0_rel {v v' : Value} {b : Nat} (hv : VRel ρ v v') (h : v = .pointer (some ⟨b, 0, none⟩)) : ∃ c, ρ b = some c ∧ v' = .pointer (some ⟨c.blk, c.off, none⟩) := by
  subst h
  cases hv with
  | cell h => cases h with
    | plain h => simp [plainV] at h
    | ptr _ h => exact ⟨_, h, rfl⟩
theorem mapEs_rel {v v' : Value} {es : List (Value × Value × Nat)} (hR : Rel ρ m w) (hv : VRel ρ v v') (h : mapEs m v = some es) : (v' = .map none ∧ es = []) ∨ ∃ c es' clock, v' = .map (some c) ∧ w.heap[c]? = some (.map es' clock) ∧ EsRel ρ es es'.toList := by
  unfold mapEs at h
  split at h
  · cases h
    exact .inl ⟨hv.eq rfl, rfl⟩
  · rename_i b
    split at h
    case h_2 => cases h
    rename_i o ho
    split at h
    case h_2 => cases h
    rename_i es1 clock hx
    cases h
    obtain ⟨c, hc, rfl⟩ := map_rel hv rfl
    have := (hR.obj _ _ _ ho hc).ext
    rw [hx] at this
    obtain ⟨_, es', h1, h2⟩ := this
    exact .inr ⟨_, es', clock, rfl, h1, h2⟩
  · cases h
theorem mapRw_rel {v v' : Value} {b clock : Nat} {o : XObj} {es : List (Value × Value × Nat)} (hR : Rel ρ m w) (hv : VRel ρ v v') (h : mapRw m v = some (b, o, es, clock)) :
    ∃ (c : Co) (es' : Array MapEntry), v' = .map (some c.blk) ∧ w.heap[c.blk]? = some (.map es' clock) ∧ EsRel ρ es es'.toList ∧
      ∀ (es2 : List (Value × Value × Nat)) (clock2 : Nat) (es2' : Array MapEntry), EsRel ρ es2 es2'.toList → Step ρ m w ρ (m.set b { o with ext := .map es2 clock2 }) (setB w c.blk (.map es2' clock2)) := by
  unfold mapRw at h
  split at h
  case h_2 => cases h
  rename_i b1
  split at h
  case h_2 => cases h
  rename_i o1 ho
  split at h
  case h_2 => cases h
  rename_i es1 clock1 hx
  obtain ⟨⟨hrw, hsp, hk⟩, h⟩ := ite_some' h
  simp only [Option.some.injEq, Prod.mk.injEq] at h
  obtain ⟨rfl, rfl, rfl, rfl⟩ := h
  obtain ⟨c, hc, rfl⟩ := map_rel hv rfl
  have hO := hR.obj _ _ _ ho hc
  have := hO.ext
  rw [hx] at this
  obtain ⟨h0, es', h1, h2⟩ := this
  refine ⟨c, es', rfl, h1, h2, fun es2 clock2 es2' h => ext_step hR ho hc hrw (by simpa using hsp) (by simpa using hk) h0 h1 rfl rfl ⟨rfl, es2', ?_, h⟩⟩
  rw [setB_get hO.lt, if_pos rfl]

theorem lookup_sound {o : Oper} {t : TypeId} {p : Bool × TypeId} {x i : Operand} {gx gi : Arg} {z : Value} {ok : Bool} (ho : o.op = .lookup t x i ok) (hgx : argOf N x = some gx) (hgi : argOf N i = some gi) (hp : mapP P t = some p) (hz : zeroV P p.2 = some z)
    (hx : xi P e m (.lookup p.1 z ok gx gi) = some r) (hE : ERel P ρ N e a) (hR : Rel ρ m w) : Good P ρ m w ((execOp a.eval o).run P w) r := by
  obtain ⟨kt, d, hu, hk, hd⟩ := mapP_spec hp
  obtain ⟨hz1, hz2, hz3⟩ := zeroV_spec hz
  simp only [xi] at hx
  obtain ⟨v, h1, hx⟩ := bind_some' hx
  obtain ⟨k, h2, hx⟩ := bind_some' hx
  obtain ⟨hkk, hx⟩ := ite_some' hx
  obtain ⟨es, h3, hx⟩ := bind_some' hx
  obtain ⟨q, h4, hx⟩ := bind_some' hx
  have e2 := (arg_rel hgi h2 hE).eq (key_plain hkk).2
  have hlook : ∃ es' : Array MapEntry, EsRel ρ es es'.toList ∧ ∀ (q' : Option (Nat × Value)) , Instr.findNow d k es'.toList 0 = some q' → (Instr.lookup t (a.eval x) (a.eval i) ok).run P w = .ok (let pr : Value × Bool := (match q' with | some (_, v) => (v, true) | none => (z, false)); if ok = true then .tuple #[pr.1, .bool pr.2] else pr.1) w := by
    rcases mapEs_rel hR (arg_rel hgx h1 hE) h3 with ⟨g1, rfl⟩ | ⟨c, es', clock, g1, g2, g3⟩
    · refine ⟨#[], .nil, fun q' hq => ?_⟩
      rw [g1, e2]
      simp only [Instr.lookup, Sem.run_bind, run_underlying hu, Result.andThen_ok, Sem.run_pure, run_key hk hd hkk, MapKept.run_findKey hk hq]
      cases q' with
      | none => simp only [Sem.run_bind, hz1, Result.andThen_ok, Sem.run_pure]
      | some y =>
        obtain ⟨y1, y2⟩ := y
        simp only [pure_bind, Sem.run_pure, Result.andThen_ok]
    · refine ⟨es', g3, fun q' hq => ?_⟩
      rw [g1, e2]
      simp only [Instr.lookup, Sem.run_bind, run_underlying hu, Result.andThen_ok, Sem.run_pure, MapKept.run_getObj_map g2, run_key hk hd hkk, MapKept.run_findKey hk hq]
      cases q' with
      | none => simp only [Sem.run_bind, hz1, Result.andThen_ok, Sem.run_pure]
      | some y =>
        obtain ⟨y1, y2⟩ := y
        simp only [pure_bind, Sem.run_pure, Result.andThen_ok]
  obtain ⟨es', hes, hlook⟩ := hlook
  simp only [Option.some.injEq] at hx
  subst hx
  rcases find_rel hd hes h4 with ⟨g1, g2⟩ | ⟨j, u, u', key, b, g1, g2, g3, _⟩
  · subst g1
    refine good_same (s := Instr.lookup t (a.eval x) (a.eval i) ok) (by simp only [execOp, ho]) hR ⟨_, hlook _ g2, ?_⟩
    cases ok
    · exact .refl hz2
    · exact .tuple (.cons (.refl hz2) (.cons (.refl rfl) .nil))
  · subst g1
    refine good_same (s := Instr.lookup t (a.eval x) (a.eval i) ok) (by simp only [execOp, ho]) hR ⟨_, hlook _ g2, ?_⟩
    cases ok
    · exact g3
    · exact .tuple (.cons g3 (.cons (.refl rfl) .nil))

theorem mapUpdate_sound {o : Oper} {t : TypeId} {p : Bool × TypeId} {x k v : Operand} {gx gk gv : Arg} (ho : o.op = .mapUpdate t x k v) (hgx : argOf N x = some gx) (hgk : argOf N k = some gk) (hgv : argOf N v = some gv) (hp : mapP P t = some p)
    (hx : xi P e m (.mapUpdate p.1 gx gk gv) = some r) (hE : ERel P ρ N e a) (hR : Rel ρ m w) : Good P ρ m w ((execOp a.eval o).run P w) r := by
  obtain ⟨kt, d, hu, hk, hd⟩ := mapP_spec hp
  simp only [xi] at hx
  obtain ⟨vx, h1, hx⟩ := bind_some' hx
  obtain ⟨vk, h2, hx⟩ := bind_some' hx
  obtain ⟨vv, h3, hx⟩ := bind_some' hx
  obtain ⟨hkk, hx⟩ := ite_some' hx
  simp only [Bool.and_eq_true] at hkk
  obtain ⟨⟨b, ob, es, clock⟩, h4, hx⟩ := bind_some' hx
  obtain ⟨q, h5, hx⟩ := bind_some' hx
  have e2 := (arg_rel hgk h2 hE).eq (key_plain hkk.1).2
  obtain ⟨c, es', g1, g2, g3, hstep⟩ := mapRw_rel hR (arg_rel hgx h1 hE) h4
  have hv := arg_rel hgv h3 hE
  have hrun : ∀ (s : Sem Unit) (w' : World), Instr.mapUpdate t (a.eval x) (a.eval k) (a.eval v) = s → s.run P w = .ok () w' → (execOp a.eval o).run P w = .ok .skip w' := by
    intro s w' hs h
    subst hs
    simp only [execOp, ho]
    exact run_u h
  rcases find_rel hd g3 h5 with ⟨q1, q2⟩ | ⟨j, u, u', key, bn, q1, q2, q3, q4, q5, q6⟩
  · subst q1
    simp only [Option.some.injEq] at hx
    subst hx
    refine ⟨ρ, _, hrun _ _ rfl ?_, hstep (es ++ [(vk, vv, clock)]) (clock + 1) (es'.push ⟨vk, a.eval v, clock⟩) (by simpa using g3.push (key_plain hkk.1).1 hv)⟩
    rw [g1, e2]
    simp only [Instr.mapUpdate, Sem.run_bind, run_underlying hu, Result.andThen_ok, MapKept.run_getObj_map g2, run_key hk hd hkk.1, MapKept.run_findKey hk q2, MapKept.run_setObj_map _ g2]
    rfl
  · subst q1
    simp only [Option.some.injEq] at hx
    subst hx
    rw [Nat.zero_add] at q2
    have hj : es'[j]? = some ⟨key, u', bn⟩ := by simpa using q5
    refine ⟨ρ, _, hrun _ _ rfl ?_, hstep (setV es (0 + j) vv) clock (es'.modify j fun e => { e with key := vk, val := a.eval v }) ?_⟩
    · rw [g1, e2]
      simp only [Instr.mapUpdate, Sem.run_bind, run_underlying hu, Result.andThen_ok, MapKept.run_getObj_map g2, run_key hk hd hkk.1, MapKept.run_findKey hk q2, hj, Option.map_some, Option.getD_some, run_keyStays q6, MapKept.run_setObj_map _ g2]
      rfl
    · rw [Nat.zero_add]
      have hq := sameK_eq q6
      subst hq
      simpa using g3.set hv q4 (key_plain hkk.1).1

theorem mapDel_sound {o : Oper} {c : Call} {t : TypeId} {ts : List TypeId} {p : Bool × TypeId} {x k : Operand} {gx gk : Arg} (ho : o.op = .call c) (hcb : c.callee = .builtin .delete) (hargs : c.args.toList = [x, k]) (hts : c.argTypes.toList = t :: ts)
    (hgx : argOf N x = some gx) (hgk : argOf N k = some gk) (hp : mapP P t = some p)
    (hx : xi P e m (.mapDel p.1 gx gk) = some r) (hE : ERel P ρ N e a) (hR : Rel ρ m w) : Good P ρ m w ((execOp a.eval o).run P w) r := by
  obtain ⟨kt, d, hu, hk, hd⟩ := mapP_spec hp
  have hexec : execOp a.eval o = (do pure (Next.value (← Builtin.delete_ c.argTypes o.type #[a.eval x, a.eval k]))) := by rw [exec_builtin ho hcb, args_two hargs]; rfl
  have ht0 : c.argTypes[0]? = some t := by rw [← Array.getElem?_toList, hts]; rfl
  simp only [xi] at hx
  obtain ⟨vx, h1, hx⟩ := bind_some' hx
  obtain ⟨vk, h2, hx⟩ := bind_some' hx
  obtain ⟨hkk, hx⟩ := ite_some' hx
  have e2 := (arg_rel hgk h2 hE).eq (key_plain hkk).2
  split at hx
  · cases hx
    have e1 := (arg_rel hgx h1 hE).eq rfl
    refine good_same hexec hR ⟨_, ?_, .refl rfl⟩
    rw [e1, e2]
    simp [Builtin.delete_, ht0, run_underlying hu, run_key hk hd hkk]
  · obtain ⟨⟨b, ob, es, clock⟩, h4, hx⟩ := bind_some' hx
    obtain ⟨q, h5, hx⟩ := bind_some' hx
    obtain ⟨c, es', g1, g2, g3, hstep⟩ := mapRw_rel hR (arg_rel hgx h1 hE) h4
    rcases find_rel hd g3 h5 with ⟨q1, q2⟩ | ⟨j, u, u', key, bn, q1, q2, q3, q4, q5, q6⟩
    · subst q1
      simp only [Option.some.injEq] at hx
      subst hx
      refine good_of hexec ⟨ρ, _, _, ?_, .refl rfl, hstep es clock es' g3⟩
      rw [g1, e2]
      simp [Builtin.delete_, ht0, run_underlying hu, MapKept.run_getObj_map g2, run_key hk hd hkk, MapKept.run_findKey hk q2, MapKept.run_setObj_map _ g2, setB]
    · subst q1
      simp only [Option.some.injEq] at hx
      subst hx
      rw [Nat.zero_add] at q2 ⊢
      refine good_of hexec ⟨ρ, _, _, ?_, .refl rfl, hstep (es.eraseIdx j) clock (es'.eraseIdxIfInBounds j) ?_⟩
      · rw [g1, e2]
        simp [Builtin.delete_, ht0, run_underlying hu, MapKept.run_getObj_map g2, run_key hk hd hkk, MapKept.run_findKey hk q2, MapKept.run_setObj_map _ g2, setB]
      · have : (es'.eraseIdxIfInBounds j).toList = es'.toList.eraseIdx j := by
          unfold Array.eraseIdxIfInBounds
          split
          · simp
          · rw [List.eraseIdx_of_length_le (by simp; omega)]
        rw [this]
        exact g3.erase j

theorem mapClear_sound {o : Oper} {c : Call} {t kt el : TypeId} {ts : List TypeId} {x : Operand} {gx : Arg} (ho : o.op = .call c) (hcb : c.callee = .builtin .clear) (hargs : c.args.toList = [x]) (hts : c.argTypes.toList = t :: ts)
    (hgx : argOf N x = some gx) (hu : P.underlying t = some (.map kt el))
    (hx : xi P e m (.mapClear gx) = some r) (hE : ERel P ρ N e a) (hR : Rel ρ m w) : Good P ρ m w ((execOp a.eval o).run P w) r := by
  have hexec : execOp a.eval o = (do pure (Next.value (← Builtin.clear_ c.argTypes o.type #[a.eval x]))) := by rw [exec_builtin ho hcb, args_one hargs]; rfl
  have ht0 : c.argTypes[0]? = some t := by rw [← Array.getElem?_toList, hts]; rfl
  simp only [xi] at hx
  obtain ⟨vx, h1, hx⟩ := bind_some' hx
  split at hx
  · cases hx
    have e1 := (arg_rel hgx h1 hE).eq rfl
    refine good_same hexec hR ⟨_, ?_, .refl rfl⟩
    rw [e1]
    simp [Builtin.clear_, ht0, run_underlying hu]
  · obtain ⟨⟨b, ob, es, clock⟩, h4, hx⟩ := bind_some' hx
    obtain ⟨c, es', g1, g2, g3, hstep⟩ := mapRw_rel hR (arg_rel hgx h1 hE) h4
    simp only [Option.some.injEq] at hx
    subst hx
    refine good_of hexec ⟨ρ, _, _, ?_, .refl rfl, hstep [] clock #[] .nil⟩
    rw [g1]
    simp [Builtin.clear_, ht0, run_underlying hu, MapKept.run_getObj_map g2, MapKept.run_setObj_map _ g2, setB]

theorem mapLen_sound {o : Oper} {c : Call} {t kt el : TypeId} {ts : List TypeId} {x : Operand} {gx : Arg} (ho : o.op = .call c) (hcb : c.callee = .builtin .len) (hargs : c.args.toList = [x]) (hts : c.argTypes.toList = t :: ts)
    (hgx : argOf N x = some gx) (hu : P.underlying t = some (.map kt el))
    (hx : xi P e m (.mapLen gx) = some r) (hE : ERel P ρ N e a) (hR : Rel ρ m w) : Good P ρ m w ((execOp a.eval o).run P w) r := by
  have hexec : execOp a.eval o = (do pure (Next.value (← Builtin.len_ c.argTypes o.type #[a.eval x]))) := by rw [exec_builtin ho hcb, args_one hargs]; rfl
  have ht0 : c.argTypes[0]? = some t := by rw [← Array.getElem?_toList, hts]; rfl
  simp only [xi] at hx
  obtain ⟨vx, h1, hx⟩ := bind_some' hx
  obtain ⟨es, h3, hx⟩ := bind_some' hx
  simp only [Option.some.injEq] at hx
  subst hx
  rcases mapEs_rel hR (arg_rel hgx h1 hE) h3 with ⟨g1, rfl⟩ | ⟨c, es', clock, g1, g2, g3⟩
  · refine good_same hexec hR ⟨_, ?_, .refl rfl⟩
    rw [g1]
    simp [Builtin.len_, ht0, run_underlying hu]
  · have hl := g3.length
    simp only [Array.length_toList] at hl
    refine good_same hexec hR ⟨_, ?_, .refl rfl⟩
    rw [g1]
    simp [Builtin.len_, ht0, run_underlying hu, MapKept.run_getObj_map g2, hl]

theorem makeMap_sound {o : Oper} {t : TypeId} (ho : o.op = .makeMap t none) (hx : xi P e m .makeMap = some r) (hR : Rel ρ m w) : Good P ρ m w ((execOp a.eval o).run P w) r := by
  simp only [xi, Option.some.injEq] at hx
  subst hx
  refine good_of (s := Instr.makeMap t none) (by simp only [execOp, ho, Option.map_none]) ⟨_, .map (some w.heap.size), w.alloc (.map #[] 0), ?_, ?_, push_ext_step hR rfl ⟨rfl, #[], (MapKept.heap_alloc w _).1, .nil⟩⟩
  · simp [Instr.makeMap, newObj, Sem.run]
  · exact .cell (.map (c := ⟨w.heap.size, 0, 0, 0⟩) (by simp [Rho.with]))

theorem mapRange_sound {o : Oper} {t : TypeId} {p : Bool × TypeId} {x : Operand} {gx : Arg} (ho : o.op = .range t x) (hgx : argOf N x = some gx) (hp : mapP P t = some p)
    (hx : xi P e m (.mapRange gx) = some r) (hE : ERel P ρ N e a) (hR : Rel ρ m w) : Good P ρ m w ((execOp a.eval o).run P w) r := by
  obtain ⟨kt, d, hu, hk, hd⟩ := mapP_spec hp
  simp only [xi] at hx
  obtain ⟨vx, h1, hx⟩ := bind_some' hx
  have hv := arg_rel hgx h1 hE
  have hptr : ∀ ρ1 : Rho, VRel (ρ.with m.next ⟨w.heap.size, 0, 0, 0⟩) (.pointer (some ⟨m.next, 0, none⟩)) (.pointer (some ⟨w.heap.size, 0, none⟩)) := fun _ => .cell (.ptr (a := ⟨m.next, 0, none⟩) (c := ⟨w.heap.size, 0, 0, 0⟩) rfl (by simp [Rho.with]))
  split at hx
  · simp only [Option.some.injEq] at hx
    subst hx
    have e1 := hv.eq rfl
    refine good_of (s := Instr.range t (a.eval x)) (by simp only [execOp, ho]) ⟨_, _, w.alloc (.mapIter none 0 #[] 0), ?_, hptr ρ, push_ext_step hR rfl ⟨rfl, rfl, none, (MapKept.heap_alloc w _).1, trivial⟩⟩
    rw [e1]
    simp [Instr.range, run_underlying hu, newObj, Sem.run]
  · rename_i b
    split at hx
    case h_2 => cases hx
    rename_i ob hob
    split at hx
    case h_2 => cases hx
    rename_i es clock hext
    simp only [Option.some.injEq] at hx
    subst hx
    obtain ⟨c, hc, e1⟩ := map_rel hv rfl
    have := (hR.obj _ _ _ hob hc).ext
    rw [hext] at this
    obtain ⟨_, es', g1, g2⟩ := this
    have hne : b ≠ m.next := fun h => by have := hR.alive _ _ hob; omega
    refine good_of (s := Instr.range t (a.eval x)) (by simp only [execOp, ho]) ⟨_, _, w.alloc (.mapIter (some c.blk) clock #[] clock), ?_, hptr ρ, push_ext_step hR rfl ⟨rfl, rfl, some c.blk, (MapKept.heap_alloc w _).1, c, by simp [Rho.with, hne, hc], rfl⟩⟩
    rw [e1]
    simp [Instr.range, run_underlying hu, MapKept.run_getObj_map g1, newObj, Sem.run]
  · cases hx

theorem makeIface_sound {o : Oper} {t : TypeId} {d : TypeDesc} {x : Operand} {gx : Arg} (ho : o.op = .makeInterface t x) (hgx : argOf N x = some gx) (hu : P.underlying t = some d) (hd : ∀ ms, d ≠ .interface ms)
    (hx : xi P e m (.makeIface t gx) = some r) (hE : ERel P ρ N e a) (hR : Rel ρ m w) : Good P ρ m w ((execOp a.eval o).run P w) r := by
  simp only [xi] at hx
  obtain ⟨v, h1, hx⟩ := bind_some' hx
  obtain ⟨hn, hx⟩ := ite_some' hx
  simp only [Option.some.injEq] at hx
  subst hx
  have hv := arg_rel hgx h1 hE
  refine good_same (s := Instr.makeInterface t (a.eval x)) (by simp only [execOp, ho]) hR ⟨.iface t (a.eval x), ?_, ?_⟩
  · simp only [Instr.makeInterface, Sem.run_bind, run_underlying hu, Result.andThen_ok]
    cases d <;> first | rfl | exact absurd rfl (hd _)
  · generalize a.eval x = y at hv
    cases hv with
    | cell h => exact .cell (.iface h)
    | agg h => exact .cell (.ifaceA h)
    | tuple h => simp [noTup] at hn

theorem EsRel.filter (f : Nat → Bool) : ∀ {es : List (Value × Value × Nat)} {es' : List MapEntry}, EsRel ρ es es' → EsRel ρ (es.filter fun x => f x.2.2) (es'.filter fun e => f e.born)
  | _, _, .nil => .nil
  | (k, v, b) :: es, _, .cons hk hv t => by
    rename_i v' es'
    have ih := EsRel.filter f t
    cases hf : f b with
    | true => simpa [hf] using EsRel.cons hk hv ih
    | false => simpa [hf] using ih
theorem EsRel.all (f : Nat → Bool) : ∀ {es : List (Value × Value × Nat)} {es' : List MapEntry}, EsRel ρ es es' → (es.all fun x => f x.2.2) = (es'.all fun e => f e.born)
  | _, _, .nil => rfl
  | (k, v, b) :: es, _, .cons hk hv t => by
    rename_i v' es'
    have ih := EsRel.all f t
    simp only [List.all_cons, ih]
theorem EsRel.find (f : Nat → Bool) : ∀ {es : List (Value × Value × Nat)} {es' : List MapEntry} {k v : Value} {b : Nat}, EsRel ρ es es' → (es.find? fun x => f x.2.2) = some (k, v, b) → ∃ v', (es'.find? fun e => f e.born) = some ⟨k, v', b⟩ ∧ VRel ρ v v' ∧ plainV k = true
  | _, _, k, v, b, .nil, h => by simp at h
  | (k1, v1, b1) :: es, _, k, v, b, .cons hk hv t, h => by
    rename_i v' es'
    cases hf : f b1 with
    | true =>
      simp [hf] at h
      obtain ⟨rfl, rfl, rfl⟩ := h
      exact ⟨v', by simp [hf], hv, hk⟩
    | false =>
      simp only [List.find?_cons, hf] at h ⊢
      exact EsRel.find f t h

theorem mapNext_sound {o : Oper} {x : Operand} {gx : Arg} (ho : o.op = .next x false) (hgx : argOf N x = some gx)
    (hx : xi P e m (.mapNext gx) = some r) (hE : ERel P ρ N e a) (hR : Rel ρ m w) : Good P ρ m w ((execOp a.eval o).run P w) r := by
  simp only [xi] at hx
  obtain ⟨vx, h1, hx⟩ := bind_some' hx
  have hv := arg_rel hgx h1 hE
  have hexec : execOp a.eval o = (do pure (Next.value (← Instr.next (a.eval x) false o.type))) := by simp only [execOp, ho]
  split at hx
  case h_2 => cases hx
  rename_i b
  obtain ⟨c, hc, e1⟩ := ptr0_rel hv rfl
  split at hx
  case h_2 => cases hx
  rename_i ob hob
  have hO := hR.obj _ _ _ hob hc
  split at hx
  · rename_i since seen last hext
    simp only [Option.some.injEq] at hx
    subst hx
    have := hO.ext
    rw [hext] at this
    obtain ⟨_, hoff, mm', g1, g2⟩ := this
    cases mm' with
    | some k => exact g2.elim
    | none =>
      refine good_same hexec hR ⟨_, ?_, .refl rfl⟩
      rw [e1, hoff]
      simp [Instr.next, getObj, Sem.run, g1]
  · rename_i mb since seen last hext
    split at hx
    case h_2 => cases hx
    rename_i mo hmo
    split at hx
    case h_2 => cases hx
    rename_i es clock hmext
    obtain ⟨⟨hrw, hsp, hkin⟩, hx⟩ := ite_some' hx
    have hi := hO.ext
    rw [hext] at hi
    obtain ⟨hcells, hoff, mm', g1, g2⟩ := hi
    cases mm' with
    | none => exact g2.elim
    | some k =>
      obtain ⟨cm, hcm, rfl⟩ := g2
      have hm := (hR.obj _ _ _ hmo hcm).ext
      rw [hmext] at hm
      obtain ⟨_, es', g3, g4⟩ := hm
      obtain ⟨l', rfl⟩ : ∃ l' : List MapEntry, es' = l'.toArray := ⟨es'.toList, by simp⟩
      simp only at g4
      by_cases hgone : (!seen.isEmpty && !es.isEmpty && es.all fun x => decide (last ≤ x.2.2)) = true
      · rw [if_pos hgone] at hx; cases hx
      rw [if_neg hgone] at hx
      have hfl := g4.filter (fun n => !seen.contains n)
      have hal := g4.all (fun n => decide (last ≤ n))
      have hln := g4.length
      have hgone' : ¬ ((!seen.toArray.isEmpty && !l'.toArray.isEmpty && l'.toArray.all fun e => decide (e.born ≥ last)) = true) := by
        intro hq
        apply hgone
        simp only [List.isEmpty_toArray, List.all_toArray, ge_iff_le] at hq
        rw [← hal] at hq
        have : l'.isEmpty = es.isEmpty := by
          cases l' <;> cases es <;> simp at hln ⊢
        rwa [this] at hq
      split at hx
      · rename_i hnil
        simp only [Option.some.injEq] at hx
        subst hx
        rw [hnil] at hfl
        have hfl' : l'.filter (fun e => !seen.contains e.born) = [] := by
          cases hh : l'.filter (fun e => !seen.contains e.born) with
          | nil => rfl
          | cons _ _ => rw [hh] at hfl; cases hfl
        refine good_same hexec hR ⟨_, ?_, .refl rfl⟩
        rw [e1, hoff]
        simp only [Instr.next, Sem.run_bind, getObj, Sem.run, g1, g3, Result.andThen_ok]
        rw [if_neg hgone']
        have hL : (l'.toArray.filter fun e => !seen.toArray.contains e.born) = #[] := by
          rw [List.filter_toArray]
          simp only [List.contains_toArray]
          rw [hfl']
        rw [hL]
        simp [choose, Sem.run, Question.forced]
      · rename_i kk vv born hone
        obtain ⟨hlt, hx⟩ := ite_some' hx
        simp only [Option.some.injEq] at hx
        subst hx
        rw [hone] at hfl
        obtain ⟨v', hfl', hvv, hkk⟩ : ∃ v', l'.filter (fun e => !seen.contains e.born) = [⟨kk, v', born⟩] ∧ VRel ρ vv v' ∧ plainV kk = true := by
          generalize l'.filter (fun e => !seen.contains e.born) = q at hfl
          cases hfl with
          | cons hk hv t => cases t; exact ⟨_, rfl, hv, hk⟩
        have hst := ext_step (x := .iter (some mb) since (seen ++ [born]) clock) (new := .mapIter (some cm.blk) since (seen.toArray.push born) clock) hR hob hc hrw (by simpa using hsp) (by simpa using hkin) hcells g1 rfl rfl ⟨rfl, hoff, some cm.blk, by rw [setB_get hO.lt, if_pos rfl]; simp, cm, hcm, rfl⟩
        refine good_of hexec ⟨ρ, .tuple #[.bool true, kk, v'], _, ?_, .tuple (.cons (.refl rfl) (.cons (.cell (.plain hkk)) (.cons hvv .nil))), hst⟩
        rw [e1, hoff]
        have hnl : ¬ since ≤ born := by omega
        simp only [Instr.next, Sem.run_bind, getObj, Sem.run, g1, g3, Result.andThen_ok]
        rw [if_neg hgone']
        have hL : (l'.toArray.filter fun e => !seen.toArray.contains e.born) = #[⟨kk, v', born⟩] := by
          rw [List.filter_toArray]
          simp only [List.contains_toArray]
          rw [hfl']
        rw [hL]
        simp [hlt, hnl, choose, setObj, Sem.run, Question.forced, g1, setB]
      · cases hx
  · cases hx

theorem mapEntry_sound {o : Oper} {x : Operand} {gx : Arg} (ho : o.op = .entry x) (hgx : argOf N x = some gx)
    (hx : xi P e m (.mapEntry gx) = some r) (hE : ERel P ρ N e a) (hR : Rel ρ m w) : Good P ρ m w ((execOp a.eval o).run P w) r := by
  simp only [xi] at hx
  obtain ⟨vx, h1, hx⟩ := bind_some' hx
  have hv := arg_rel hgx h1 hE
  have hexec : execOp a.eval o = (do pure (Next.value (← Instr.entry (a.eval x)))) := by simp only [execOp, ho]
  split at hx
  case h_2 => cases hx
  rename_i b
  obtain ⟨c, hc, e1⟩ := ptr0_rel hv rfl
  split at hx
  case h_2 => cases hx
  rename_i ob hob
  have hO := hR.obj _ _ _ hob hc
  split at hx
  case h_2 => cases hx
  rename_i mb since seen last hext
  split at hx
  case h_2 => cases hx
  rename_i mo hmo
  split at hx
  case h_2 => cases hx
  rename_i es clock hmext
  obtain ⟨hcl, hx⟩ := ite_some' hx
  obtain ⟨born, hb, hx⟩ := bind_some' hx
  obtain ⟨⟨kk, vv, bb⟩, hf, hx⟩ := bind_some' hx
  simp only [Option.some.injEq] at hx
  subst hx
  have hi := hO.ext
  rw [hext] at hi
  obtain ⟨hcells, hoff, mm', g1, g2⟩ := hi
  cases mm' with
  | none => exact g2.elim
  | some k =>
    obtain ⟨cm, hcm, rfl⟩ := g2
    have hm := (hR.obj _ _ _ hmo hcm).ext
    rw [hmext] at hm
    obtain ⟨_, es', g3, g4⟩ := hm
    obtain ⟨v', k1, k2, k3⟩ := g4.find (fun n => n == born) hf
    refine good_same hexec hR ⟨.tuple #[kk, v'], ?_, .tuple (.cons (.cell (.plain k3)) (.cons k2 .nil))⟩
    rw [e1, hoff]
    have hb' : seen.toArray.back? = some born := by simpa using hb
    have k1' : es'.find? (fun e => e.born == born) = some ⟨kk, v', bb⟩ := by rw [← Array.find?_toList]; exact k1
    subst hcl
    simp [Instr.entry, Sem.run_bind, getObj, Sem.run, g1, g3, hb', k1']

theorem findT_spec {name : String} : ∀ {l : List Nat} {t : TypeId} {f : FuncId}, findT (l.filterMap fun t => (P.info? t).bind fun i => (i.methods.find? (·.name == name)).bind fun m =>
    if m.path.isEmpty then match m.func, P.underlying t with
      | some (_, false), some (.pointer _) => none
      | some (f, false), some _ => some (t, f)
      | _, _ => none
    else none) t = some f → ∃ i mm d, P.info? t = some i ∧ i.methods.find? (·.name == name) = some mm ∧ mm.path.isEmpty = true ∧ mm.func = some (f, false) ∧ P.underlying t = some d ∧ ∀ el, d ≠ .pointer el
  | [], t, f, h => by simp [findT] at h
  | u :: l, t, f, h => by
    rw [List.filterMap_cons] at h
    split at h
    · exact findT_spec h
    · rename_i p hp
      obtain ⟨i, hi, hp⟩ := bind_some' hp
      obtain ⟨mm, hm, hp⟩ := bind_some' hp
      obtain ⟨hpa, hp⟩ := ite_some' hp
      split at hp
      · cases hp
      · rename_i f1 d hnp hmf hu
        cases hp
        simp only [findT] at h
        by_cases hut : u = t
        · rw [if_pos hut] at h
          cases h
          subst hut
          exact ⟨i, mm, _, hi, hm, hpa, hmf, hu, fun el hel => hnp el (by rw [hel])⟩
        · rw [if_neg hut] at h
          exact findT_spec h
      · cases hp

theorem invoke_sound {o : Oper} {c : Call} {x : Operand} {name : String} {gx : Arg} {gs : List Arg} (ho : o.op = .call c) (hcb : c.callee = .invoke x name) (hgx : argOf N x = some gx) (hgs : argsOf N c.args.toList = some gs)
    (hx : xi P e m (.invoke (invTab P name) gx gs) = some r) (hE : ERel P ρ N e a) (hR : Rel ρ m w) : Good P ρ m w ((execOp a.eval o).run P w) r := by
  simp only [xi] at hx
  obtain ⟨v, h1, hx⟩ := bind_some' hx
  obtain ⟨vs, h2, hx⟩ := bind_some' hx
  have hv := arg_rel hgx h1 hE
  have hvs := args_rel hgs h2 hE
  obtain ⟨t, rv, rfl⟩ : ∃ t rv, v = .iface t rv := by
    cases v <;> first | exact ⟨_, _, rfl⟩ | cases hx
  simp only at hx
  obtain ⟨f, h3, hx⟩ := bind_some' hx
  simp only [Option.some.injEq] at hx
  subst hx
  obtain ⟨i, mm, d, hi, hm, hpa, hmf, hu, hnp⟩ := findT_spec h3
  obtain ⟨v', e1, hrv⟩ : ∃ v', a.eval x = .iface t v' ∧ VRel ρ rv v' := by
    generalize a.eval x = y at hv
    cases hv with
    | cell h => cases h with
      | plain h => simp [plainV] at h
      | iface h => exact ⟨_, rfl, .cell h⟩
      | ifaceA h => exact ⟨_, rfl, .agg h⟩
  have hpath : mm.path.toList = [] := by simpa using hpa
  refine ⟨#[v'] ++ c.args.map a.eval, ?_, by simpa using VsRel.cons hrv hvs⟩
  have hmeth : (method (P.types.size + Made.depth) t v' name).run P w = .ok (f, v') w := by
    have hfuel : P.types.size + Made.depth = (P.types.size + Made.depth - 1) + 1 := by
      have : 0 < Made.depth := by decide
      omega
    rw [hfuel]
    unfold method
    have hrecv : (receiverAt t (.val v') false (if mm.path.isEmpty then some ((name.splitOn ".").getLastD name) else none)).run P w = .ok v' w := by
      simp only [receiverAt, Sem.run_bind, run_underlying hu, Result.andThen_ok]
      cases d <;> first | rfl | exact absurd rfl (hnp _)
    simp only [typeInfo, Sem.run_bind, run_program, Result.andThen_ok, hi, Sem.run_pure, hm, hpath, follow, hmf, hrecv]
  have hz : (#[a.eval x] ++ c.args.map a.eval)[0]? = some (.iface t v') := by rw [e1]; rw [Array.getElem?_append_left (by simp)]; rfl
  have hr : (#[a.eval x] ++ c.args.map a.eval).extract 1 (#[a.eval x] ++ c.args.map a.eval).size = c.args.map a.eval := by simp
  simp only [execOp, ho, resolve, hcb, pure_bind, invoke, hz, hr, callMethod, Sem.run_bind, run_program, Result.andThen_ok, hmeth]

end
end Go.Proofs.YtnlmnejellipdaaGreat.X
