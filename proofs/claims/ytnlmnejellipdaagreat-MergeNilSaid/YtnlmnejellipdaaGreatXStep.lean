/-
  Own work. Each operation of the abstract run is the model's: the theorem 'op_sound'.
-/
import Derived.Test.YtnlmnejellipdaaGreatXOps
namespace Go.Proofs.YtnlmnejellipdaaGreat.X
open Go
set_option linter.unusedVariables false
set_option linter.unusedSimpArgs false

/-- What the model's operation answers, given what the abstract one does. -/
def Good (P : Program) (ρ : Rho) (m : Mem) (w : World) (r : Result Next) : XR → Prop
  | .val v m' => ∃ ρ' v' w', r = .ok (.value v') w' ∧ VRel ρ' v v' ∧ Step ρ m w ρ' m' w'
  | .skip m' => ∃ ρ' w', r = .ok .skip w' ∧ Step ρ m w ρ' m' w'
  | .call f args => ∃ args', r = (callFunc f args').run P w ∧ VsRel ρ args args'.toList

section
variable {P : Program} {ρ : Rho} {N : Nat} {e : Env} {a : Act} {m : Mem} {w : World} {r : XR}

theorem good_val {v v' : Value} (hR : Rel ρ m w) (hv : VRel ρ v v') {x : Result Next} (hx : x = .ok (.value v') w) : Good P ρ m w x (.val v m) :=
  ⟨ρ, v', w, hx, hv, .refl hR⟩

theorem run_v {s : Sem Value} {v : Value} {w w' : World} (h : s.run P w = .ok v w') : (do pure (Next.value (← s)) : Sem Next).run P w = .ok (.value v) w' := by
  simp [h]
theorem run_u {s : Sem Unit} {w w' : World} (h : s.run P w = .ok () w') : (do s; pure Next.skip : Sem Next).run P w = .ok .skip w' := by
  simp [h]

/-! alloc, box -/
theorem alloc_sound {t : TypeId} {zero : List Value} (hz : zeroP P t = some zero) (hR : Rel ρ m w) :
    ∃ ρ' v' w', (Instr.alloc t true (.tuple #[])).run P w = .ok v' w' ∧ VRel ρ' (xbox m zero).1 v' ∧ Step ρ m w ρ' (xbox m zero).2 w' := by
  obtain ⟨i, z, hi, hzi, rfl, hp, hs⟩ := zeroP_spec hz
  refine ⟨ρ.with m.next ⟨w.heap.size, 0, z.cells.size, 0⟩, .pointer (some ⟨w.heap.size, 0, none⟩), w.alloc (.cells z.cells t), ?_, ?_, ?_⟩
  · simp [Instr.alloc, zeroValue, typeInfo, hi, hzi, newVar, newRow]
  · exact .cell (.ptr (a := ⟨m.next, 0, none⟩) (c := ⟨w.heap.size, 0, z.cells.size, 0⟩) rfl (by simp [Rho.with]))
  · exact push_step (e := t) 0 hR (by simpa [List.take_of_length_le] using CsRel.flat hp) (by simp) (by simp)

theorem box_sound {t : TypeId} {v v' : Value} (hv : VRel ρ v v') (hn : noTup v = true) (hR : Rel ρ m w) :
    ∃ ρ' u' w', (Instr.box t v').run P w = .ok u' w' ∧ VRel ρ' (xbox m v.cells.toList).1 u' ∧ Step ρ m w ρ' (xbox m v.cells.toList).2 w' := by
  have hc := hv.cells (fun c hc => by subst hc; simp [noTup] at hn)
  refine ⟨ρ.with m.next ⟨w.heap.size, 0, v'.cells.size, 0⟩, .pointer (some ⟨w.heap.size, 0, none⟩), w.alloc (.cells v'.cells t), ?_, ?_, ?_⟩
  · simp [Instr.box, newVar, newRow]
  · exact .cell (.ptr (a := ⟨m.next, 0, none⟩) (c := ⟨w.heap.size, 0, v'.cells.size, 0⟩) rfl (by simp [Rho.with]))
  · refine push_step (e := t) 0 hR ?_ (by simp) (by simp)
    have := hc.length
    rw [← this, List.take_length]; exact hc

/-! build -/
theorem places_run : ∀ {fs : List Field} {pl : List (Nat × Nat)}, placesP P fs = some pl → ∀ w, (fs.mapM (fun f => do pure (f.offset, ← sizeOf f.type)) : Sem (List (Nat × Nat))).run P w = .ok pl w
  | [], pl, h, w => by simp [placesP] at h; subst h; simp
  | f :: fs, pl, h, w => by
    simp only [placesP] at h
    cases hs : sizeP P f.type with
    | none => simp [hs] at h
    | some s =>
      cases hp : placesP P fs with
      | none => simp [hs, hp] at h
      | some l =>
        simp [hs, hp] at h
        subst h
        have ih := places_run hp w
        simp only [List.mapM_cons, Sem.run_bind, run_sizeOf' hs, Result.andThen_ok, Sem.run_pure, ih]

theorem build_sound {t : TypeId} {zero : List Value} {parts : Array (Nat × Operand)} {ps : List (Nat × Arg)} {vs : List (Nat × Value)} {cs : Array Value} {place : Nat → Option (Nat × Nat)}
    (hz : zeroP P t = some zero) (hp : partsOf N parts.toList = some ps) (hE : ERel P ρ N e a) (hv : xparts e ps = some vs)
    (hpl : (∃ fs pl, P.underlying t = some (.struct fs) ∧ placesP P fs.toList = some pl ∧ place = (pl[·]?)) ∨ (∃ n el s, P.underlying t = some (.array n el) ∧ sizeP P el = some s ∧ place = fun i => some (i * s, s)))
    (hf : Instr.fill place zero.toArray vs = some cs) :
    ∃ v', (Instr.build t (parts.map fun (i, x) => (i, a.eval x))).run P w = .ok v' w ∧ VRel ρ (.agg cs) v' := by
  obtain ⟨i, z, hi, hzi, rfl, hpz, hs⟩ := zeroP_spec hz
  have hps := parts_rel hp hv hE
  obtain ⟨r', hf', hr'⟩ := fill_rel (ρ := ρ) place hps (cs' := z.cells) (by simpa using CsRel.flat hpz) hf
  refine ⟨.agg r', ?_, .agg hr'⟩
  have hl : (parts.map fun (i, x) => (i, a.eval x)).toList = parts.toList.map fun p => (p.1, a.eval p.2) := by simp
  rcases hpl with ⟨fs, pl, hu, hpl, rfl⟩ | ⟨n, el, s, hu, hsz, rfl⟩
  · have hm := places_run hpl w
    have hm' : (fs.mapM (fun f => do pure (f.offset, ← sizeOf f.type)) : Sem (Array (Nat × Nat))).run P w = .ok pl.toArray w := by
      rw [← Array.toArray_toList (xs := fs), List.mapM_toArray]
      simp only [Sem.run_map, hm, Result.andThen_ok]
    have hfill : Instr.fill (fun x => pl.toArray[x]?) z.cells (parts.toList.map fun p => (p.1, a.eval p.2)) = some r' := by
      simpa using hf'
    simp only [Instr.build, zeroValue, typeInfo, Sem.run_bind, run_program, Result.andThen_ok, hi, hzi, Sem.run_pure, run_underlying hu, hm', hl, hfill]
  · simp only [Instr.build, zeroValue, typeInfo, Sem.run_bind, run_program, Result.andThen_ok, hi, hzi, Sem.run_pure, run_underlying hu, run_sizeOf' hsz, hl, hf']

theorem buildSlice_sound {t el : TypeId} {zero : List Value} {size len : Nat} {parts : Array (Nat × Operand)} {ps : List (Nat × Arg)} {vs : List (Nat × Value)} {cs : Array Value}
    (ht : elemP P t = some el) (hz : zeroP P el = some zero) (hs : sizeP P el = some size) (hp : partsOf N parts.toList = some ps) (hE : ERel P ρ N e a) (hv : xparts e ps = some vs)
    (hsmall : len * size ≤ 16777216) (hzl : zero.length = size) (hf : Instr.fill (fun i => some (i * size, size)) (zerosOf zero len).toArray vs = some cs) (hR : Rel ρ m w) :
    ∃ ρ' v' w', (Instr.buildSlice t len (parts.map fun (i, x) => (i, a.eval x))).run P w = .ok v' w' ∧ VRel ρ' (.slice (some ⟨m.next, 0, none⟩) len len) v' ∧
      Step ρ m w ρ' (m.push { cells := cs.toList, rw := true, spare := none, kin := [] }) w' := by
  have hu := elemP_spec ht
  obtain ⟨i, z, hi, hzi, rfl, hpz, hsz⟩ := zeroP_spec hz
  have hps := parts_rel hp hv hE
  have hzl' : z.cells.size = size := by simpa using hzl
  obtain ⟨r', hf', hr'⟩ := fill_rel (ρ := ρ) _ hps (cs' := (zerosOf z.cells.toList len).toArray) (by simpa using CsRel.flat (zerosOf_plain hpz len)) hf
  have hl : (parts.map fun (i, x) => (i, a.eval x)).toList = parts.toList.map fun p => (p.1, a.eval p.2) := by simp
  have hzero : ((Array.range (len * size)).map (fun x => (if len * size = 0 then #[] else z.cells)[x % (if len * size = 0 then #[] else z.cells).size]!)) = (zerosOf z.cells.toList len).toArray := by
    by_cases h0 : len * size = 0
    · rw [if_pos h0, h0]
      have : (zerosOf z.cells.toList len) = [] := List.eq_nil_of_length_eq_zero (by rw [zerosOf_length]; simp [hzl', h0])
      simp [this]
    · rw [if_neg h0]
      apply Array.ext'
      have := zerosOf_eq z.cells len
      rw [hzl'] at this
      simp only [hzl']
      rw [this]
  refine ⟨ρ.with m.next ⟨w.heap.size, 0, r'.size, 0⟩, .slice (some ⟨w.heap.size, 0, none⟩) len len, w.alloc (.cells r' el), ?_, ?_, ?_⟩
  · have hsmall' : ¬ (len * size > 2 ^ 24) := by omega
    simp only [Instr.buildSlice, zeroValue, typeInfo, Sem.run_bind, run_program, Result.andThen_ok, hi, hzi, Sem.run_pure, run_underlying hu, run_sizeOf' hs, hl]
    rw [if_neg hsmall']
    by_cases h0 : len * size = 0
    · rw [if_pos h0] at hzero
      simp only [if_pos h0, Sem.run_bind, Sem.run_pure, Result.andThen_ok, hzero, hf', newRow, run_newObj_alloc]
    · rw [if_neg h0] at hzero
      simp only [if_neg h0, Sem.run_bind, run_program, Sem.run_pure, Result.andThen_ok, hi, hzi, hzero, hf', newRow, run_newObj_alloc]
  · exact .cell (.slice (a := ⟨m.next, 0, none⟩) (c := ⟨w.heap.size, 0, r'.size, 0⟩) rfl (by simp [Rho.with]) (Nat.le_refl _))
  · refine push_step (e := el) 0 hR ?_ (by simp) (by simp)
    have := hr'.length
    rw [← this, List.take_length]; exact hr'

/-! load, store -/
def loadRes (g : Bool) (cs : List Value) : Option Value :=
  match g, cs with
  | true, cs => some (.agg cs.toArray)
  | false, [v] => some v
  | false, _ => none

theorem load_sound {t : TypeId} {g : Bool} {size : Nat} {b : Addr} {c : Co} {cs : List Value} {v : Value} (hg : aggP P t = some g) (hs : g = true → sizeP P t = some size) (h1 : g = false → size = 1)
    (hR : Rel ρ m w) (hc : ρ b.block = some c) (hl : xload m b size = some cs) (hv : loadRes g cs = some v) :
    ∃ v', (loadVar t ⟨c.blk, c.off + b.off, none⟩).run P w = .ok v' w ∧ VRel ρ v v' := by
  obtain ⟨vs', hrel, hrun⟩ := xload_run (P := P) hR hl hc
  cases g with
  | true =>
    simp only [loadRes, Option.some.injEq] at hv
    subst hv
    refine ⟨.agg vs'.toArray, ?_, .agg (by simpa using hrel)⟩
    simp [loadVar, run_isAgg' hg, run_sizeOf' (hs rfl), hrun]
  | false =>
    have h1' := h1 rfl
    subst h1'
    obtain ⟨vs2, hl2, hrel2, hcell⟩ := xload_rel hR hl hc
    obtain ⟨u, rfl, rfl⟩ : ∃ u, cs = [u] ∧ v = u := by
      cases cs with
      | nil => simp [loadRes] at hv
      | cons u r => cases r with
        | nil => simp [loadRes] at hv; exact ⟨u, rfl, hv.symm⟩
        | cons _ _ => simp [loadRes] at hv
    cases hrel2 with
    | cons hu ht =>
      cases ht
      rename_i u'
      refine ⟨u', ?_, .cell hu⟩
      have := hcell 0 u' rfl
      simp only [Nat.add_zero] at this
      simp [loadVar, run_isAgg' hg, run_load, this]

theorem store_sound {t : TypeId} {size : Nat} {b : Addr} {c : Co} {v v' : Value} {m' : Mem} (hs : sizeP P t = some size) (hR : Rel ρ m w) (hc : ρ b.block = some c) (hv : VRel ρ v v') (hn : noTup v = true)
    (hsz : v.cells.size = size) (h : if size = 0 then m' = m else xstore m b v.cells.toList = some m') :
    ∃ w', (storeVar t ⟨c.blk, c.off + b.off, none⟩ v').run P w = .ok () w' ∧ Step ρ m w ρ m' w' := by
  have hcs := hv.cells (fun c hc => by subst hc; simp [noTup] at hn)
  have hl : v'.cells.size = size := by have := hcs.length; simp at this; omega
  by_cases h0 : size = 0
  · rw [if_pos h0] at h
    subst h
    have hnil : v'.cells.toList = [] := List.eq_nil_of_length_eq_zero (by simp [hl, h0])
    exact ⟨w, by simp [storeVar, run_sizeOf' hs, hl, hnil, storeCells], .refl hR⟩
  · rw [if_neg h0] at h
    obtain ⟨hrun, hst⟩ := xstore_run (P := P) hR h hc hcs
    exact ⟨_, by simp [storeVar, run_sizeOf' hs, hl, hrun], hst⟩
end
end Go.Proofs.YtnlmnejellipdaaGreat.X
