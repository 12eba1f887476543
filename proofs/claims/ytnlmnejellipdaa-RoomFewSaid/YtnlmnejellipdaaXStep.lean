/-
  Own work. Each operation of the abstract run is the model's: the theorem 'op_sound'. More operations of the abstract run. Slices, calls; the theorem 'op_sound'.
-/
import Derived.Test.YtnlmnejellipdaaXOps
namespace Go.Proofs.Ytnlmnejellipdaa.X
open Go
set_option linter.unusedVariables false
set_option linter.unusedSimpArgs false
def Good (P : Program) (ρ : Rho) (m : Mem) (w : World) (r : Result Next) : XR → Prop
 | .val v m' => ∃ ρ' v' w', r = .ok (.value v') w' ∧ VRel ρ' v v' ∧ Step ρ m w ρ' m' w'
 | .skip m' => ∃ ρ' w', r = .ok .skip w' ∧ Step ρ m w ρ' m' w'
 | .call f args => ∃ args', r = (callFunc f args').run P w ∧ VsRel ρ args args'.toList
section
variable {P : Program} {ρ : Rho} {N : Nat} {e : Env} {a : Act} {m : Mem} {w : World} {r : XR}
theorem good_val {v v' : Value} (hR : Rel ρ m w) (hv : VRel ρ v v') {x : Result Next} (hx : x = .ok (.value v') w) : Good P ρ m w x (.val v m) :=
 ⟨ρ, v', w, hx, hv, .refl hR⟩
theorem run_v {s : Sem Value} {v : Value} {w w' : World} (h : s.run P w = .ok v w') : (do pure (Next.value (← s)) : Sem Next).run P w = .ok (.value v) w' := by
 simp [h]
theorem run_u {s : Sem Unit} {w w' : World} (h : s.run P w = .ok () w') : (do s; pure Next.skip : Sem Next).run P w = .ok .skip w' := by
 simp [h]
theorem alloc_sound {t : TypeId} {zero : List Value} (hz : zeroP P t = some zero) (hR : Rel ρ m w) :
  ∃ ρ' v' w', (Instr.alloc t true (.tuple #[])).run P w = .ok v' w' ∧ VRel ρ' (xbox m zero).1 v' ∧ Step ρ m w ρ' (xbox m zero).2 w' := by
 obtain ⟨i, z, hi, hzi, rfl, hp, hs⟩ := zeroP_spec hz
 refine ⟨ρ.with m.next ⟨w.heap.size, 0, z.cells.size, 0⟩, .pointer (some ⟨w.heap.size, 0, none⟩), w.alloc (.cells z.cells t), ?_, ?_, ?_⟩
 ·simp [Instr.alloc, zeroValue, typeInfo, hi, hzi, newVar, newRow]
 ·exact .cell (.ptr (a := ⟨m.next, 0, none⟩) (c := ⟨w.heap.size, 0, z.cells.size, 0⟩) rfl (by simp [Rho.with]))
 ·exact push_step (e := t) 0 hR (by simpa [List.take_of_length_le] using CsRel.flat hp) (by simp) (by simp)
theorem box_sound {t : TypeId} {v v' : Value} (hv : VRel ρ v v') (hn : noTup v = true) (hR : Rel ρ m w) :
  ∃ ρ' u' w', (Instr.box t v').run P w = .ok u' w' ∧ VRel ρ' (xbox m v.cells.toList).1 u' ∧ Step ρ m w ρ' (xbox m v.cells.toList).2 w' := by
 have hc := hv.cells (fun c hc => by subst hc; simp [noTup] at hn)
 refine ⟨ρ.with m.next ⟨w.heap.size, 0, v'.cells.size, 0⟩, .pointer (some ⟨w.heap.size, 0, none⟩), w.alloc (.cells v'.cells t), ?_, ?_, ?_⟩
 ·simp [Instr.box, newVar, newRow]
 ·exact .cell (.ptr (a := ⟨m.next, 0, none⟩) (c := ⟨w.heap.size, 0, v'.cells.size, 0⟩) rfl (by simp [Rho.with]))
 ·refine push_step (e := t) 0 hR ?_ (by simp) (by simp)
  have := hc.length
  rw [← this, List.take_length]; exact hc
theorem places_run : ∀ {fs : List Field} {pl : List (Nat × Nat)}, placesP P fs = some pl → ∀ w, (fs.mapM (fun f => do pure (f.offset, ← sizeOf f.type)) : Sem (List (Nat × Nat))).run P w = .ok pl w
 | [], pl, h, w => by simp [placesP] at h; subst h; simp
 | f :: fs, pl, h, w => by
  simp only [placesP] at h
  cases hs : sizeP P f.type with
  | none => simp [hs] at h
  | some s =>
   cases hp : placesP P fs with
   | none => simp [hs, hp] at h
   | some l =>
    simp [hs, hp] at h
    subst h
    have ih := places_run hp w
    simp only [List.mapM_cons, Sem.run_bind, run_sizeOf' hs, Result.andThen_ok, Sem.run_pure, ih]
theorem build_sound {t : TypeId} {zero : List Value} {parts : Array (Nat × Operand)} {ps : List (Nat × Arg)} {vs : List (Nat × Value)} {cs : Array Value} {place : Nat → Option (Nat × Nat)}
  (hz : zeroP P t = some zero) (hp : partsOf N parts.toList = some ps) (hE : ERel P ρ N e a) (hv : xparts e ps = some vs)
  (hpl : (∃ fs pl, P.underlying t = some (.struct fs) ∧ placesP P fs.toList = some pl ∧ place = (pl[·]?)) ∨ (∃ n el s, P.underlying t = some (.array n el) ∧ sizeP P el = some s ∧ place = fun i => some (i * s, s)))
  (hf : Instr.fill place zero.toArray vs = some cs) :
  ∃ v', (Instr.build t (parts.map fun (i, x) => (i, a.eval x))).run P w = .ok v' w ∧ VRel ρ (.agg cs) v' := by
 obtain ⟨i, z, hi, hzi, rfl, hpz, hs⟩ := zeroP_spec hz
 have hps := parts_rel hp hv hE
 obtain ⟨r', hf', hr'⟩ := fill_rel (ρ := ρ) place hps (cs' := z.cells) (by simpa using CsRel.flat hpz) hf
 refine ⟨.agg r', ?_, .agg hr'⟩
 have hl : (parts.map fun (i, x) => (i, a.eval x)).toList = parts.toList.map fun p => (p.1, a.eval p.2) := by simp
 rcases hpl with ⟨fs, pl, hu, hpl, rfl⟩ | ⟨n, el, s, hu, hsz, rfl⟩
 ·have hm := places_run hpl w
  have hm' : (fs.mapM (fun f => do pure (f.offset, ← sizeOf f.type)) : Sem (Array (Nat × Nat))).run P w = .ok pl.toArray w := by
   rw [← Array.toArray_toList (xs := fs), List.mapM_toArray]
   simp only [Sem.run_map, hm, Result.andThen_ok]
  have hfill : Instr.fill (fun x => pl.toArray[x]?) z.cells (parts.toList.map fun p => (p.1, a.eval p.2)) = some r' := by
   simpa using hf'
  simp only [Instr.build, zeroValue, typeInfo, Sem.run_bind, run_program, Result.andThen_ok, hi, hzi, Sem.run_pure, run_underlying hu, hm', hl, hfill]
 ·simp only [Instr.build, zeroValue, typeInfo, Sem.run_bind, run_program, Result.andThen_ok, hi, hzi, Sem.run_pure, run_underlying hu, run_sizeOf' hsz, hl, hf']
theorem buildSlice_sound {t el : TypeId} {zero : List Value} {size len : Nat} {parts : Array (Nat × Operand)} {ps : List (Nat × Arg)} {vs : List (Nat × Value)} {cs : Array Value}
  (ht : elemP P t = some el) (hz : zeroP P el = some zero) (hs : sizeP P el = some size) (hp : partsOf N parts.toList = some ps) (hE : ERel P ρ N e a) (hv : xparts e ps = some vs)
  (hsmall : len * size ≤ 16777216) (hzl : zero.length = size) (hf : Instr.fill (fun i => some (i * size, size)) (zerosOf zero len).toArray vs = some cs) (hR : Rel ρ m w) :
  ∃ ρ' v' w', (Instr.buildSlice t len (parts.map fun (i, x) => (i, a.eval x))).run P w = .ok v' w' ∧ VRel ρ' (.slice (some ⟨m.next, 0, none⟩) len len) v' ∧
   Step ρ m w ρ' (m.push { cells := cs.toList, rw := true, spare := none, kin := [] }) w' := by
 have hu := elemP_spec ht
 obtain ⟨i, z, hi, hzi, rfl, hpz, hsz⟩ := zeroP_spec hz
 have hps := parts_rel hp hv hE
 have hzl' : z.cells.size = size := by simpa using hzl
 obtain ⟨r', hf', hr'⟩ := fill_rel (ρ := ρ) _ hps (cs' := (zerosOf z.cells.toList len).toArray) (by simpa using CsRel.flat (zerosOf_plain hpz len)) hf
 have hl : (parts.map fun (i, x) => (i, a.eval x)).toList = parts.toList.map fun p => (p.1, a.eval p.2) := by simp
 have hzero : ((Array.range (len * size)).map (fun x => (if len * size = 0 then #[] else z.cells)[x % (if len * size = 0 then #[] else z.cells).size]!)) = (zerosOf z.cells.toList len).toArray := by
  by_cases h0 : len * size = 0
  ·rw [if_pos h0, h0]
   have : (zerosOf z.cells.toList len) = [] := List.eq_nil_of_length_eq_zero (by rw [zerosOf_length]; simp [hzl', h0])
   simp [this]
  ·rw [if_neg h0]
   apply Array.ext'
   have := zerosOf_eq z.cells len
   rw [hzl'] at this
   simp only [hzl']
   rw [this]
 refine ⟨ρ.with m.next ⟨w.heap.size, 0, r'.size, 0⟩, .slice (some ⟨w.heap.size, 0, none⟩) len len, w.alloc (.cells r' el), ?_, ?_, ?_⟩
 ·have hsmall' : ¬ (len * size > 2 ^ 24) := by omega
  simp only [Instr.buildSlice, zeroValue, typeInfo, Sem.run_bind, run_program, Result.andThen_ok, hi, hzi, Sem.run_pure, run_underlying hu, run_sizeOf' hs, hl]
  rw [if_neg hsmall']
  by_cases h0 : len * size = 0
  ·rw [if_pos h0] at hzero
   simp only [if_pos h0, Sem.run_bind, Sem.run_pure, Result.andThen_ok, hzero, hf', newRow, run_newObj_alloc]
  ·rw [if_neg h0] at hzero
   simp only [if_neg h0, Sem.run_bind, run_program, Sem.run_pure, Result.andThen_ok, hi, hzi, hzero, hf', newRow, run_newObj_alloc]
 ·exact .cell (.slice (a := ⟨m.next, 0, none⟩) (c := ⟨w.heap.size, 0, r'.size, 0⟩) rfl (by simp [Rho.with]) (Nat.le_refl _))
 ·refine push_step (e := el) 0 hR ?_ (by simp) (by simp)
  have := hr'.length
  rw [← this, List.take_length]; exact hr'
def loadRes (g : Bool) (cs : List Value) : Option Value :=
 match g, cs with
 | true, cs => some (.agg cs.toArray)
 | false, [v] => some v
 | false, _ => none
theorem load_sound {t : TypeId} {g : Bool} {size : Nat} {b : Addr} {c : Co} {cs : List Value} {v : Value} (hg : aggP P t = some g) (hs : g = true → sizeP P t = some size) (h1 : g = false → size = 1)
  (hR : Rel ρ m w) (hc : ρ b.block = some c) (hl : xload m b size = some cs) (hv : loadRes g cs = some v) :
  ∃ v', (loadVar t ⟨c.blk, c.off + b.off, none⟩).run P w = .ok v' w ∧ VRel ρ v v' := by
 obtain ⟨vs', hrel, hrun⟩ := xload_run (P := P) hR hl hc
 cases g with
 | true =>
  simp only [loadRes, Option.some.injEq] at hv
  subst hv
  refine ⟨.agg vs'.toArray, ?_, .agg (by simpa using hrel)⟩
  simp [loadVar, run_isAgg' hg, run_sizeOf' (hs rfl), hrun]
 | false =>
  have h1' := h1 rfl
  subst h1'
  obtain ⟨vs2, hl2, hrel2, hcell⟩ := xload_rel hR hl hc
  obtain ⟨u, rfl, rfl⟩ : ∃ u, cs = [u] ∧ v = u := by
   cases cs with
   | nil => simp [loadRes] at hv
   | cons u r => cases r with
    | nil => simp [loadRes] at hv; exact ⟨u, rfl, hv.symm⟩
    | cons _ _ => simp [loadRes] at hv
  cases hrel2 with
  | cons hu ht =>
   cases ht
   rename_i u'
   refine ⟨u', ?_, .cell hu⟩
   have := hcell 0 u' rfl
   simp only [Nat.add_zero] at this
   simp [loadVar, run_isAgg' hg, run_load, this]
theorem store_sound {t : TypeId} {size : Nat} {b : Addr} {c : Co} {v v' : Value} {m' : Mem} (hs : sizeP P t = some size) (hR : Rel ρ m w) (hc : ρ b.block = some c) (hv : VRel ρ v v') (hn : noTup v = true)
  (hsz : v.cells.size = size) (h : if size = 0 then m' = m else xstore m b v.cells.toList = some m') :
  ∃ w', (storeVar t ⟨c.blk, c.off + b.off, none⟩ v').run P w = .ok () w' ∧ Step ρ m w ρ m' w' := by
 have hcs := hv.cells (fun c hc => by subst hc; simp [noTup] at hn)
 have hl : v'.cells.size = size := by have := hcs.length; simp at this; omega
 by_cases h0 : size = 0
 ·rw [if_pos h0] at h
  subst h
  have hnil : v'.cells.toList = [] := List.eq_nil_of_length_eq_zero (by simp [hl, h0])
  exact ⟨w, by simp [storeVar, run_sizeOf' hs, hl, hnil, storeCells], .refl hR⟩
 ·rw [if_neg h0] at h
  obtain ⟨hrun, hst⟩ := xstore_run (P := P) hR h hc hcs
  exact ⟨_, by simp [storeVar, run_sizeOf' hs, hl, hrun], hst⟩
end
section
variable {P : Program} {ρ : Rho} {N : Nat} {e : Env} {a : Act} {m : Mem} {w : World} {r : XR}
theorem eqGuard_plain (op : BinOp) (t : TypeId) (x y x' y' : Operand) (u v : Value) (hu : plain u = true) (hv : plain v = true) : eqGuard op t x y u v = eqGuard op t x' y' u v := by
 unfold eqGuard
 cases u <;> cases v <;> first | rfl | (simp [plain, plainV] at hu; done) | (simp [plain, plainV] at hv; done)
theorem run_eqGuard_cell (op : BinOp) (t : TypeId) (x y : Operand) (u v : Value) (hu : u.oneCell' = true) (hn : u ≠ .nilIface) (w : World) : (eqGuard op t x y u v).run P w = .ok () w := by
 unfold eqGuard
 cases u <;> cases v <;> first | (simp [Value.oneCell'] at hu; done) | exact absurd rfl hn | (cases op <;> rfl)
theorem eq_ptr (d : Nat) {t el : TypeId} (hu : P.underlying t = some (.pointer el)) (p : Option Addr) (w : World) : (Op.equalIn (d + 1) t (.pointer p) (.pointer none)).run P w = .ok p.isNone w := by
 cases p <;> simp [Op.equalIn, run_underlying hu]
theorem eq_slice (d : Nat) {t el : TypeId} (hu : P.underlying t = some (.slice el)) (p : Option Addr) (l c : Nat) (w : World) : (Op.equalIn (d + 1) t (.slice p l c) (.slice none 0 0)).run P w = .ok p.isNone w := by
 cases p <;> simp [Op.equalIn, run_underlying hu]
theorem eq_map (d : Nat) {t k el : TypeId} (hu : P.underlying t = some (.map k el)) (p : Option Nat) (w : World) : (Op.equalIn (d + 1) t (.map p) (.map none)).run P w = .ok p.isNone w := by
 cases p <;> simp [Op.equalIn, run_underlying hu]
theorem eq_func (d : Nat) {t : TypeId} {ps rs : Array TypeId} {v : Bool} (hu : P.underlying t = some (.func ps rs v)) (fn : Fn) (f c : Array Value) (w : World) : (Op.equalIn (d + 1) t (.func fn f c) .nilFunc).run P w = .ok false w := by
 simp [Op.equalIn, run_underlying hu]
theorem eq_func_nil (d : Nat) {t : TypeId} {ps rs : Array TypeId} {v : Bool} (hu : P.underlying t = some (.func ps rs v)) (w : World) : (Op.equalIn (d + 1) t .nilFunc .nilFunc).run P w = .ok true w := by
 simp [Op.equalIn, run_underlying hu]
theorem eq_iface (d : Nat) {t u : TypeId} {ms : Array (String × TypeId)} (hu : P.underlying t = some (.interface ms)) (v : Value) (w : World) : (Op.equalIn (d + 1) t (.iface u v) .nilIface).run P w = .ok false w := by
 simp [Op.equalIn, run_underlying hu]
theorem eq_iface_nil (d : Nat) {t : TypeId} {ms : Array (String × TypeId)} (hu : P.underlying t = some (.interface ms)) (w : World) : (Op.equalIn (d + 1) t .nilIface .nilIface).run P w = .ok true w := by
 simp [Op.equalIn, run_underlying hu]
theorem run_eqGuard_nil (op : BinOp) (t : TypeId) (x : Operand) (w : World) : (eqGuard op t x (.const .nilIface) .nilIface .nilIface).run P w = .ok () w := by
 unfold eqGuard
 cases op <;> cases x <;> rfl
theorem eql_run {t : TypeId} {u v : Value} {b : Bool} (neg : Bool) (x y : Operand) (hb1 : binOp .eql t u v = (do pure (.bool (← Op.equal t u v)))) (hb2 : binOp .neq t u v = (do pure (.bool (!(← Op.equal t u v)))))
  (he : (Op.equalIn (9999 + 1) t u v).run P w = .ok b w) (h1 : u.oneCell' = true) (hn : u ≠ .nilIface) :
  (do eqGuard (if neg then .neq else .eql) t x y u v; binOp (if neg then .neq else .eql) t u v).run P w = .ok (.bool (b != neg)) w := by
 have he' : (Op.equal t u v).run P w = .ok b w := he
 rw [Sem.run_bind, run_eqGuard_cell _ _ _ _ _ _ h1 hn, Result.andThen_ok]
 cases neg
 ·rw [if_neg (by simp), hb1]; simp only [Sem.run_bind, he', Result.andThen_ok, Sem.run_pure]; cases b <;> rfl
 ·rw [if_pos rfl, hb2]; simp only [Sem.run_bind, he', Result.andThen_ok, Sem.run_pure]; cases b <;> rfl
def nilRes (k : NK) (neg : Bool) (v : Value) : Option Value :=
 match k, v with
 | .ptr, .pointer p => some (.bool (p.isNone != neg))
 | .slice, .slice p _ _ => some (.bool (p.isNone != neg))
 | .map, .map p => some (.bool (p.isNone != neg))
 | .func, .nilFunc => some (.bool (!neg))
 | .func, .func _ _ _ => some (.bool neg)
 | .iface, .nilIface => some (.bool (!neg))
 | .iface, .iface _ _ => some (.bool neg)
 | _, _ => none
theorem isNil_sound {k : NK} {neg : Bool} {t : TypeId} {y : Operand} {v v' : Value} {res : Value} (hk : nilKind P t y = some k) (hv : VRel ρ v v')
  (hr : nilRes k neg v = some res) (x : Operand) (w : World) :
  (do eqGuard (if neg then .neq else .eql) t x y v' (a.eval y); binOp (if neg then .neq else .eql) t v' (a.eval y)).run P w = .ok res w := by
 unfold nilKind at hk
 split at hk
 ·split at hk
  case h_2 => cases hk
  rename_i hu
  cases hk
  cases v <;> simp only [nilRes, reduceCtorEq, Option.some.injEq] at hr
  subst hr
  rename_i p0
  have : ∃ q, v' = .pointer q ∧ q.isNone = p0.isNone := by
   cases hv with
   | cell h => cases h with
    | plain h => exact ⟨_, rfl, rfl⟩
    | ptr _ _ => exact ⟨_, rfl, rfl⟩
  obtain ⟨q, rfl, hq⟩ := this
  rw [← hq]
  exact eql_run neg x _ (by cases q <;> rfl) (by cases q <;> rfl) (eq_ptr 9999 hu q w) rfl (by simp)
 ·split at hk
  case h_2 => cases hk
  rename_i hu
  cases hk
  cases v <;> simp only [nilRes, reduceCtorEq, Option.some.injEq] at hr
  subst hr
  rename_i p0 l0 c0
  have : ∃ q l c, v' = .slice q l c ∧ q.isNone = p0.isNone := by
   cases hv with
   | cell h => cases h with
    | plain h => exact ⟨_, _, _, rfl, rfl⟩
    | slice _ _ _ => exact ⟨_, _, _, rfl, rfl⟩
    | slack _ _ _ _ _ => exact ⟨_, _, _, rfl, rfl⟩
    | zero _ => exact ⟨_, _, _, rfl, rfl⟩
  obtain ⟨q, l, c, rfl, hq⟩ := this
  rw [← hq]
  exact eql_run neg x _ (by cases q <;> rfl) (by cases q <;> rfl) (eq_slice 9999 hu q l c w) rfl (by simp)
 ·split at hk
  case h_2 => cases hk
  rename_i hu
  cases hk
  cases v <;> simp only [nilRes, reduceCtorEq, Option.some.injEq] at hr
  subst hr
  rename_i p0
  have : ∃ q, v' = .map q ∧ q.isNone = p0.isNone := by
   cases hv with
   | cell h => cases h with
    | plain h => exact ⟨_, rfl, rfl⟩
    | map _ => exact ⟨_, rfl, rfl⟩
  obtain ⟨q, rfl, hq⟩ := this
  rw [← hq]
  exact eql_run neg x _ (by cases q <;> rfl) (by cases q <;> rfl) (eq_map 9999 hu _ w) rfl (by simp)
 ·split at hk
  case h_2 => cases hk
  rename_i hu
  cases hk
  cases v <;> simp only [nilRes, reduceCtorEq, Option.some.injEq] at hr
  ·subst hr
   rename_i fn f c
   have : ∃ f' c', v' = .func fn f' c' := by
    cases hv with
    | cell h => cases h with
     | plain h => simp [plainV] at h
     | func _ _ => exact ⟨_, _, rfl⟩
   obtain ⟨f', c', rfl⟩ := this
   have e1 : a.eval (.const .nilFunc) = .nilFunc := rfl
   rw [e1]
   have := eql_run (b := false) (P := P) (w := w) (t := t) neg x (.const .nilFunc) rfl rfl (eq_func 9999 hu fn f' c' w) rfl (by simp)
   simpa using this
  ·subst hr
   have := hv.eq rfl
   subst this
   have e1 : a.eval (.const .nilFunc) = .nilFunc := rfl
   rw [e1]
   have := eql_run (b := true) (P := P) (w := w) (t := t) neg x (.const .nilFunc) rfl rfl (eq_func_nil 9999 hu w) rfl (by simp)
   simpa using this
 ·split at hk
  case h_2 => cases hk
  rename_i hu
  cases hk
  have e1 : a.eval (.const .nilIface) = .nilIface := rfl
  rw [e1]
  cases v <;> simp only [nilRes, reduceCtorEq, Option.some.injEq] at hr
  ·subst hr
   rename_i u v0
   have : ∃ v1, v' = .iface u v1 := by
    cases hv with
    | cell h => cases h with
     | plain h => simp [plainV] at h
     | iface _ => exact ⟨_, rfl⟩
     | ifaceA _ => exact ⟨_, rfl⟩
   obtain ⟨v1, rfl⟩ := this
   have := eql_run (b := false) (P := P) (w := w) (t := t) neg x (.const .nilIface) rfl rfl (eq_iface (u := u) 9999 hu v1 w) rfl (by simp)
   simpa using this
  ·subst hr
   have : v' = .nilIface := by
    cases hv with
    | cell h => cases h with
     | plain h => simp [plainV] at h
     | nilI => rfl
   subst this
   have he' : (Op.equal t .nilIface .nilIface).run P w = .ok true w := eq_iface_nil 9999 hu w
   rw [Sem.run_bind, run_eqGuard_nil, Result.andThen_ok]
   cases neg <;> simp [binOp, he']
 ·cases hk
theorem fieldAddr_sound {t : TypeId} {fs : Array Field} {f s : Nat} {fd : Field} {b : Addr} {v' : Value} (hu : P.underlying t = some (.struct fs)) (hf : fs[f]? = some fd) (hs : sizeP P fd.type = some s) (hs0 : s ≠ 0)
  (hv : VRel ρ (.pointer (some b)) v') : ∃ u', (Instr.fieldAt t v' f).run P w = .ok u' w ∧ VRel ρ (.pointer (some ⟨b.block, b.off + fd.offset, none⟩)) u' := by
 obtain ⟨c, hsp, hc, rfl⟩ := ptr_rel hv
 refine ⟨.pointer (some ⟨c.blk, c.off + (b.off + fd.offset), none⟩), ?_, .cell (.ptr rfl hc)⟩
 simp only [Instr.fieldAt, Sem.run_bind, run_underlying hu, Result.andThen_ok, hf, Instr.sureAddr, Sem.run_pure, fieldPlace, run_sizeOf' hs]
 rw [if_neg hs0]
 simp [Addr.add_lit, Nat.add_assoc]
def fieldRes (g : Bool) (off s : Nat) (cs : Array Value) : Option Value :=
 match g with
 | true => some (.agg (cs.extract off (off + s)))
 | false => cs[off]?
theorem field_sound {t : TypeId} {fs : Array Field} {f s : Nat} {g : Bool} {fd : Field} {cs : Array Value} {v' res : Value} (hu : P.underlying t = some (.struct fs)) (hf : fs[f]? = some fd) (hs : sizeP P fd.type = some s) (hg : aggP P fd.type = some g)
  (hv : VRel ρ (.agg cs) v') (hr : fieldRes g fd.offset s cs = some res) :
  ∃ u', (Instr.field t v' f).run P w = .ok u' w ∧ VRel ρ res u' := by
 cases hv with
 | cell h => cases h with | plain h => simp [plainV] at h
 | agg h =>
  rename_i cs'
  cases g with
  | true =>
   simp only [fieldRes, Option.some.injEq] at hr
   subst hr
   refine ⟨.agg (cs'.extract fd.offset (fd.offset + s)), ?_, .agg ?_⟩
   ·simp [Instr.field, run_underlying hu, hf, asAgg, part, run_isAgg' hg, run_sizeOf' hs]
   ·simp only [Array.toList_extract, List.extract_eq_take_drop]
    exact (h.drop _).take _
  | false =>
   simp only [fieldRes] at hr
   obtain ⟨u', h1, h2⟩ := h.get fd.offset res (by simpa using hr)
   refine ⟨u', ?_, .cell h2⟩
   have h1' : cs'[fd.offset]? = some u' := by simpa using h1
   simp [Instr.field, run_underlying hu, hf, asAgg, part, run_isAgg' hg, h1']
theorem indexAddr_sound {t el : TypeId} {s len cap j : Nat} {b : Addr} {v' vi vi' : Value} (hu : P.underlying t = some (.slice el)) (hs : sizeP P el = some s) (hv : VRel ρ (.slice (some b) len cap) v') (hi : VRel ρ vi vi')
  (hj : asNat vi = some j) (hlt : j < len) : ∃ u', (Instr.indexAt t v' vi').run P w = .ok u' w ∧ VRel ρ (.pointer (some ⟨b.block, b.off + j * s, none⟩)) u' := by
 obtain ⟨k, rfl, rfl⟩ := asNat_rel hj hi
 have hcase : ∃ c cap', ρ b.block = some c ∧ v' = .slice (some ⟨c.blk, c.off + b.off, none⟩) len cap' := by
  cases hv with
  | cell h => cases h with
   | plain h => simp [plainV] at h
   | slice _ hc _ => exact ⟨_, _, hc, rfl⟩
   | slack _ hc hl hcap _ hx =>
    obtain ⟨rfl, _⟩ := hx.resolve_left (by omega)
    exact ⟨_, _, hc, rfl⟩
   | zero _ => omega
 obtain ⟨c, cap', hc, rfl⟩ := hcase
 refine ⟨.pointer (some ⟨c.blk, c.off + (b.off + j * s), none⟩), ?_, .cell (.ptr rfl hc)⟩
 have hb : (0 : Int) ≤ (j : Int) ∧ (j : Int) < (len : Int) := by omega
 simp [Instr.indexAt, asIntOf, run_underlying hu, hlt, run_sizeOf' hs, Addr.add_lit, Nat.add_assoc]
theorem indexAddrArr_sound {t el : TypeId} {n s j : Nat} {b : Addr} {v' vi vi' : Value} (hu : P.underlying t = some (.array n el)) (hs : sizeP P el = some s) (hv : VRel ρ (.pointer (some b)) v') (hi : VRel ρ vi vi')
  (hj : asNat vi = some j) (hlt : j < n) : ∃ u', (Instr.indexAt t v' vi').run P w = .ok u' w ∧ VRel ρ (.pointer (some ⟨b.block, b.off + j * s, none⟩)) u' := by
 obtain ⟨k, rfl, rfl⟩ := asNat_rel hj hi
 obtain ⟨c, _, hc, rfl⟩ := ptr_rel hv
 refine ⟨.pointer (some ⟨c.blk, c.off + (b.off + j * s), none⟩), ?_, .cell (.ptr rfl hc)⟩
 simp [Instr.indexAt, Instr.sureAddr, asIntOf, run_underlying hu, hlt, run_sizeOf' hs, Addr.add_lit, Nat.add_assoc]
theorem run_sliceBound {x : Value} {k : IntKind} {n y : Nat} (code : BoundsCode) (hx : x = .int k n) (h : n ≤ y) (w : World) : (Instr.sliceBound x y code).run P w = .ok n w := by
 subst hx
 simp [Instr.sliceBound, asIntOf, h]
theorem bounds_sound {len cap cap' l h c : Nat} {lo hi mx lo' hi' mx' : Option Value} (hb : xbounds len cap lo hi mx = some (l, h, c)) (hlen : len ≤ cap) (hcap : cap ≤ cap')
  (h1 : (lo = none ∧ lo' = none) ∨ ∃ u u', lo = some u ∧ lo' = some u' ∧ VRel ρ u u') (h2 : (hi = none ∧ hi' = none) ∨ ∃ u u', hi = some u ∧ hi' = some u' ∧ VRel ρ u u')
  (h3 : (mx = none ∧ mx' = none) ∨ ∃ u u', mx = some u ∧ mx' = some u' ∧ VRel ρ u u') :
  (Instr.sliceBounds true len cap' lo' hi' mx').run P w = .ok (l, h, if mx.isNone then cap' else c) w ∧ l ≤ h ∧ h ≤ c ∧ c ≤ cap ∧ (mx = none → c = cap) := by
 unfold xbounds at hb
 rcases h3 with ⟨rfl, rfl⟩ | ⟨um, um', rfl, rfl, hum⟩
 ·simp only [Option.bind_some] at hb
  rcases h2 with ⟨rfl, rfl⟩ | ⟨uh, uh', rfl, rfl, huh⟩
  ·simp only [Option.bind_some] at hb
   rcases h1 with ⟨rfl, rfl⟩ | ⟨ul, ul', rfl, rfl, hul⟩
   ·simp only [Option.bind_some, Option.some.injEq, Prod.mk.injEq] at hb
    obtain ⟨rfl, rfl, rfl⟩ := hb
    exact ⟨by simp [Instr.sliceBounds], by omega, by omega, by omega, fun _ => rfl⟩
   ·cases hn : asNat ul with
    | none => simp [hn] at hb
    | some nl =>
     simp only [hn, Option.bind_some] at hb
     split at hb
     case isFalse => simp at hb
     rename_i hle
     simp only [Option.bind_some, Option.some.injEq, Prod.mk.injEq] at hb
     obtain ⟨rfl, rfl, rfl⟩ := hb
     obtain ⟨k, e1, _⟩ := asNat_rel hn hul
     exact ⟨by simp [Instr.sliceBounds, run_sliceBound _ e1 hle], by omega, by omega, by omega, fun _ => rfl⟩
  ·cases hn : asNat uh with
   | none => simp [hn] at hb
   | some nh =>
    simp only [hn, Option.bind_some] at hb
    split at hb
    case isFalse => simp at hb
    rename_i hle
    simp only [Option.bind_some] at hb
    obtain ⟨k, e1, _⟩ := asNat_rel hn huh
    have hle' : nh ≤ cap' := by omega
    rcases h1 with ⟨rfl, rfl⟩ | ⟨ul, ul', rfl, rfl, hul⟩
    ·simp only [Option.bind_some, Option.some.injEq, Prod.mk.injEq] at hb
     obtain ⟨rfl, rfl, rfl⟩ := hb
     exact ⟨by simp [Instr.sliceBounds, run_sliceBound _ e1 hle'], by omega, by omega, by omega, fun _ => rfl⟩
    ·cases hn2 : asNat ul with
     | none => simp [hn2] at hb
     | some nl =>
      simp only [hn2, Option.bind_some] at hb
      split at hb
      case isFalse => simp at hb
      rename_i hle2
      simp only [Option.bind_some, Option.some.injEq, Prod.mk.injEq] at hb
      obtain ⟨rfl, rfl, rfl⟩ := hb
      obtain ⟨k2, e2, _⟩ := asNat_rel hn2 hul
      exact ⟨by simp [Instr.sliceBounds, run_sliceBound _ e1 hle', run_sliceBound _ e2 hle2], by omega, by omega, by omega, fun _ => rfl⟩
 ·cases hnm : asNat um with
  | none => simp [hnm] at hb
  | some nm =>
   simp only [hnm, Option.bind_some] at hb
   split at hb
   case isFalse => simp at hb
   rename_i hlem
   simp only [Option.bind_some] at hb
   obtain ⟨km, em, _⟩ := asNat_rel hnm hum
   have hlem' : nm ≤ cap' := by omega
   rcases h2 with ⟨rfl, rfl⟩ | ⟨uh, uh', rfl, rfl, huh⟩
   ·simp at hb
   ·cases hn : asNat uh with
    | none => simp [hn] at hb
    | some nh =>
     simp only [hn, Option.bind_some] at hb
     split at hb
     case isFalse => simp at hb
     rename_i hle
     simp only [Option.bind_some] at hb
     obtain ⟨k, e1, _⟩ := asNat_rel hn huh
     rcases h1 with ⟨rfl, rfl⟩ | ⟨ul, ul', rfl, rfl, hul⟩
     ·simp only [Option.bind_some, Option.some.injEq, Prod.mk.injEq] at hb
      obtain ⟨rfl, rfl, rfl⟩ := hb
      exact ⟨by simp [Instr.sliceBounds, run_sliceBound _ em hlem', run_sliceBound _ e1 hle], by omega, by omega, by omega, fun h => by cases h⟩
     ·cases hn2 : asNat ul with
      | none => simp [hn2] at hb
      | some nl =>
       simp only [hn2, Option.bind_some] at hb
       split at hb
       case isFalse => simp at hb
       rename_i hle2
       simp only [Option.bind_some, Option.some.injEq, Prod.mk.injEq] at hb
       obtain ⟨rfl, rfl, rfl⟩ := hb
       obtain ⟨k2, e2, _⟩ := asNat_rel hn2 hul
       exact ⟨by simp [Instr.sliceBounds, run_sliceBound _ em hlem', run_sliceBound _ e1 hle, run_sliceBound _ e2 hle2], by omega, by omega, by omega, fun h => by cases h⟩
end
section
variable {P : Program} {ρ : Rho} {N : Nat} {e : Env} {a : Act} {m : Mem} {w : World} {r : XR}
theorem slice_sound {t el : TypeId} {size len cap l h c : Nat} {p : Option Addr} {v' res : Value} {lo hi mx lo' hi' mx' : Option Value} (hu : P.underlying t = some (.slice el)) (hs : sizeP P el = some size)
  (hR : Rel ρ m w) (hv : VRel ρ (.slice p len cap) v') (hb : xbounds len cap lo hi mx = some (l, h, c))
  (h1 : (lo = none ∧ lo' = none) ∨ ∃ u u', lo = some u ∧ lo' = some u' ∧ VRel ρ u u') (h2 : (hi = none ∧ hi' = none) ∨ ∃ u u', hi = some u ∧ hi' = some u' ∧ VRel ρ u u')
  (h3 : (mx = none ∧ mx' = none) ∨ ∃ u u', mx = some u ∧ mx' = some u' ∧ VRel ρ u u') (hr : xsliceR m size p l h c mx.isSome = some res) :
  ∃ u', (Instr.sliceAt t v' lo' hi' mx').run P w = .ok u' w ∧ VRel ρ res u' := by
 have hrun : ∀ (q : Option Addr) (cap' : Nat), cap ≤ cap' → len ≤ cap → (Instr.sliceAt t (.slice q len cap') lo' hi' mx').run P w =
   .ok (.slice (if (if mx.isNone then cap' else c) = l then q else q.map (·.add (l * size))) (h - l) ((if mx.isNone then cap' else c) - l)) w ∧ l ≤ h ∧ h ≤ c ∧ c ≤ cap ∧ (mx = none → c = cap) := by
  intro q cap' hc hl
  obtain ⟨g1, g2⟩ := bounds_sound (P := P) (w := w) hb hl hc h1 h2 h3
  refine ⟨?_, g2⟩
  simp [Instr.sliceAt, Instr.slice, run_underlying hu, g1, run_sizeOf' hs]
 have hrunS : ∀ (q : Addr) (cap' : Nat), cap ≤ cap' → len ≤ cap → (Instr.sliceAt t (.slice (some q) len cap') lo' hi' mx').run P w =
   .ok (.slice (some (if (if mx.isNone then cap' else c) = l then q else q.add (l * size))) (h - l) ((if mx.isNone then cap' else c) - l)) w ∧ l ≤ h ∧ h ≤ c ∧ c ≤ cap ∧ (mx = none → c = cap) := by
  intro q cap' hc hl
  obtain ⟨g1, g2⟩ := hrun (some q) cap' hc hl
  refine ⟨?_, g2⟩
  rw [g1]
  congr 2
  by_cases hq : (if mx.isNone then cap' else c) = l
  ·rw [if_pos hq, if_pos hq]
  ·rw [if_neg hq, if_neg hq]; rfl
 cases hv with
 | cell hv =>
  cases hv with
  | plain hp =>
   have : p = none ∧ len = 0 ∧ cap = 0 := by
    cases p with
    | some _ => simp [plainV] at hp
    | none => simp only [plainV] at hp; split at hp <;> simp_all
   obtain ⟨rfl, rfl, rfl⟩ := this
   obtain ⟨g1, g2, g3, g4, g5⟩ := hrun none 0 (Nat.le_refl _) (Nat.le_refl _)
   simp only [xsliceR, Option.some.injEq] at hr
   subst hr
   have e1 : h - l = 0 := by omega
   have e2 : c - l = 0 := by omega
   refine ⟨_, g1, ?_⟩
   have e3 : (if mx.isNone then 0 else c) - l = 0 := by split <;> omega
   rw [e1, e2, e3]
   simp only [Option.map_none, ite_self]
   exact .cell (.plain rfl)
  | slice hsp hc hl =>
   rename_i b k
   obtain ⟨g1, g2, g3, g4, g5⟩ := hrunS ⟨k.blk, k.off + b.off, none⟩ cap (Nat.le_refl _) hl
   simp only [xsliceR, hsp, Option.some.injEq] at hr
   subst hr
   have e1 : (if mx.isNone then cap else c) = c := by
    split
    ·rename_i hn; exact (g5 (by simpa using hn)).symm
    ·rfl
   rw [e1] at g1
   refine ⟨_, g1, ?_⟩
   split
   ·exact .cell (.slice hsp hc (by omega))
   ·simp only [Addr.add_lit, Nat.add_assoc]
    exact .cell (.slice (a := ⟨b.block, b.off + l * size, none⟩) rfl hc (by omega))
  | zero hsp =>
   rename_i b b'
   obtain ⟨g1, g2, g3, g4, g5⟩ := hrunS b' 0 (Nat.le_refl _) (Nat.le_refl _)
   simp only [xsliceR, hsp, Option.some.injEq] at hr
   have e1 : h - l = 0 := by omega
   have e2 : c - l = 0 := by omega
   rw [e1, e2] at hr
   subst hr
   refine ⟨_, g1, ?_⟩
   have e3 : (if mx.isNone then 0 else c) - l = 0 := by split <;> omega
   rw [e1, e3]
   exact .cell (.zero hsp)
  | slack hsp hc hl hcap hmax hx =>
   rename_i b b' k cap'
   obtain ⟨g1, g2, g3, g4, g5⟩ := hrunS b' cap' hcap hl
   simp only [xsliceR, hsp] at hr
   split at hr
   ·rename_i hm
    obtain ⟨um, rfl⟩ := Option.isSome_iff_exists.1 hm
    simp only [Option.some.injEq] at hr
    subst hr
    simp only [Option.isNone_some, Bool.false_eq_true, if_false] at g1
    refine ⟨_, g1, ?_⟩
    split
    ·rename_i hcl
     have e1 : h - l = 0 := by omega
     have e2 : c - l = 0 := by omega
     rw [e1, e2]
     exact .cell (.zero (a := ⟨b.block, b.off, some 1⟩) rfl)
    ·rename_i hcl
     obtain ⟨rfl, hxr⟩ := hx.resolve_left (by omega)
     simp only [Addr.add_lit, Nat.add_assoc]
     exact .cell (.slice (a := ⟨b.block, b.off + l * size, none⟩) rfl hc (by omega))
   ·rename_i hm
    have hmn : mx = none := by cases mx with | none => rfl | some _ => simp at hm
    subst hmn
    simp only [Option.isNone_none, if_true] at g1
    split at hr
    case h_2 => simp at hr
    rename_i o ho
    split at hr
    case isFalse => simp at hr
    rename_i hspare
    simp only [Option.some.injEq] at hr
    subst hr
    have hesz := (hR.obj _ _ _ ho hc).esz _ hspare
    have hcc := g5 rfl
    subst hcc
    refine ⟨_, g1, .cell (.slack (a := ⟨b.block, b.off + l * size, some 0⟩) (c := k) rfl hc (by omega) (by omega) (by omega) ?_)⟩
    rcases hx with h0 | ⟨rfl, hxr⟩
    ·exact .inl (by omega)
    ·by_cases hcl : cap' = l
     ·exact .inl (by omega)
     ·right
      rw [if_neg hcl]
      constructor
      ·simp only [Addr.add_lit, Nat.add_assoc]
      ·simp only
       rw [hesz] at hxr ⊢
       have : l ≤ cap' := by omega
       have h2 : (cap' - l) * size = cap' * size - l * size := Nat.sub_mul _ _ _
       have h3 : l * size ≤ cap' * size := Nat.mul_le_mul_right _ this
       omega
theorem wrap_nat {n : Nat} (h : n ≤ 9223372036854775807) : IntKind.i64.wrap (n : Int) = n := IntWalk.i64_in _ (by omega)
theorem makeSlice_sound {t el : TypeId} {zero : List Value} {bytes l c : Nat} {vl vl' vc vc' : Value} (ht : elemP P t = some el) (hz : zeroP P el = some zero) (hb : bytesP P el = some bytes)
  (hl : asNat vl = some l) (hc : asNat vc = some c) (hvl : VRel ρ vl vl') (hvc : VRel ρ vc vc') (hlc : l ≤ c) (hbc : bytes * c ≤ 281474976710656) (hc63 : c ≤ 9223372036854775807) (hR : Rel ρ m w) :
  ∃ ρ' v' w', (Instr.makeSlice t vl' vc').run P w = .ok v' w' ∧ VRel ρ' (.slice (some ⟨m.next, 0, none⟩) l c) v' ∧
   Step ρ m w ρ' (m.push { cells := zerosOf zero c, rw := true, spare := none, kin := [] }) w' := by
 have hu := elemP_spec ht
 obtain ⟨i, z, hi, hzi, rfl, hpz, hsz⟩ := zeroP_spec hz
 obtain ⟨i2, hi2, rfl⟩ := bytesP_spec hb
 rw [hi] at hi2
 cases hi2
 obtain ⟨k1, rfl, _⟩ := asNat_rel hl hvl
 obtain ⟨k2, rfl, _⟩ := asNat_rel hc hvc
 have hrow : ((Array.range (c * i.size)).map (fun x => (if c * i.size = 0 then #[] else z.cells)[x % (if c * i.size = 0 then #[] else z.cells).size]!)) = (zerosOf z.cells.toList c).toArray := by
  by_cases h0 : c * i.size = 0
  ·rw [if_pos h0, h0]
   have : (zerosOf z.cells.toList c) = [] := List.eq_nil_of_length_eq_zero (by rw [zerosOf_length, Array.length_toList, hsz]; exact h0)
   simp [this]
  ·rw [if_neg h0]
   apply Array.ext'
   have := zerosOf_eq z.cells c
   rw [hsz] at this
   simp only [hsz]
   rw [this]
 refine ⟨ρ.with m.next ⟨w.heap.size, 0, (zerosOf z.cells.toList c).toArray.size, 0⟩, .slice (some ⟨w.heap.size, 0, none⟩) l c, w.alloc (.cells (zerosOf z.cells.toList c).toArray el), ?_, ?_, ?_⟩
 ·have e1 : IntKind.i64.wrap (l : Int) = l := wrap_nat (by omega)
  have e2 : IntKind.i64.wrap (c : Int) = c := wrap_nat hc63
  have e3 : ¬ ((i.bytes : Int) * (c : Int) > 2 ^ 48) := by
   have h1 : ((i.bytes * c : Nat) : Int) ≤ ((281474976710656 : Nat) : Int) := Int.ofNat_le.2 hbc
   rw [Int.natCast_mul] at h1
   have h48 : (2 : Int) ^ 48 = ((281474976710656 : Nat) : Int) := rfl
   rw [h48]; omega
  have hsize : (sizeOf el).run P w = .ok i.size w := by simp [sizeOf, typeInfo, hi]
  have hcond : ((decide ((c : Int) < 0) || decide ((i.bytes : Int) * (c : Int) > 2 ^ 48) || decide ((l : Int) < 0) || decide ((l : Int) > (c : Int)))) = false := by
   rw [decide_eq_false e3, decide_eq_false (show ¬ ((c : Int) < 0) by omega), decide_eq_false (show ¬ ((l : Int) < 0) by omega), decide_eq_false (show ¬ ((l : Int) > (c : Int)) by omega)]; rfl
  by_cases h0 : c * i.size = 0
  ·rw [if_pos h0] at hrow
   simp only [Instr.makeSlice, Sem.run_bind, run_underlying hu, Result.andThen_ok, asInt, asIntOf, Sem.run_pure, typeInfo, run_program, hi, e1, e2]
   rw [if_neg (by simpa [or_assoc] using hcond)]
   simp only [Sem.run_bind, run_askRoom, Result.andThen_ok, Int.toNat_natCast, hsize, if_pos h0, Sem.run_pure, hrow, newRow, run_newObj_alloc]
  ·rw [if_neg h0] at hrow
   simp only [Instr.makeSlice, Sem.run_bind, run_underlying hu, Result.andThen_ok, asInt, asIntOf, Sem.run_pure, typeInfo, run_program, hi, e1, e2]
   rw [if_neg (by simpa [or_assoc] using hcond)]
   simp only [Sem.run_bind, run_askRoom, Result.andThen_ok, Int.toNat_natCast, hsize, if_neg h0, zeroValue, typeInfo, run_program, hi, hzi, Sem.run_pure, hrow, newRow, run_newObj_alloc]
 ·exact .cell (.slice (a := ⟨m.next, 0, none⟩) (c := ⟨w.heap.size, 0, (zerosOf z.cells.toList c).toArray.size, 0⟩) rfl (by simp [Rho.with]) hlc)
 ·refine push_step (e := el) (row := (zerosOf z.cells.toList c).toArray) 0 hR ?_ (by simp) (by simp)
  rw [List.take_length]; exact .flat (zerosOf_plain hpz c)
end
end Go.Proofs.Ytnlmnejellipdaa.X
