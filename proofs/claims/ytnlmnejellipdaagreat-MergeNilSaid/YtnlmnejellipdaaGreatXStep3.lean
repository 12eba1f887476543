/-
  Own work. Slices, calls; the theorem 'op_sound'.
-/
import Derived.Test.YtnlmnejellipdaaGreatXStep2
namespace Go.Proofs.YtnlmnejellipdaaGreat.X
open Go
set_option linter.unusedVariables false
set_option linter.unusedSimpArgs false

section
variable {P : Program} {ρ : Rho} {N : Nat} {e : Env} {a : Act} {m : Mem} {w : World} {r : XR}

theorem slice_sound {t el : TypeId} {size len cap l h c : Nat} {p : Option Addr} {v' res : Value} {lo hi mx lo' hi' mx' : Option Value} (hu : P.underlying t = some (.slice el)) (hs : sizeP P el = some size)
    (hR : Rel ρ m w) (hv : VRel ρ (.slice p len cap) v') (hb : xbounds len cap lo hi mx = some (l, h, c))
    (h1 : (lo = none ∧ lo' = none) ∨ ∃ u u', lo = some u ∧ lo' = some u' ∧ VRel ρ u u') (h2 : (hi = none ∧ hi' = none) ∨ ∃ u u', hi = some u ∧ hi' = some u' ∧ VRel ρ u u')
    (h3 : (mx = none ∧ mx' = none) ∨ ∃ u u', mx = some u ∧ mx' = some u' ∧ VRel ρ u u') (hr : xsliceR m size p l h c mx.isSome = some res) :
    ∃ u', (Instr.sliceAt t v' lo' hi' mx').run P w = .ok u' w ∧ VRel ρ res u' := by
  have hrun : ∀ (q : Option Addr) (cap' : Nat), cap ≤ cap' → len ≤ cap → (Instr.sliceAt t (.slice q len cap') lo' hi' mx').run P w =
      .ok (.slice (if (if mx.isNone then cap' else c) = l then q else q.map (·.add (l * size))) (h - l) ((if mx.isNone then cap' else c) - l)) w ∧ l ≤ h ∧ h ≤ c ∧ c ≤ cap ∧ (mx = none → c = cap) := by
    intro q cap' hc hl
    obtain ⟨g1, g2⟩ := bounds_sound (P := P) (w := w) hb hl hc h1 h2 h3
    refine ⟨?_, g2⟩
    simp [Instr.sliceAt, Instr.slice, run_underlying hu, g1, run_sizeOf' hs]
  have hrunS : ∀ (q : Addr) (cap' : Nat), cap ≤ cap' → len ≤ cap → (Instr.sliceAt t (.slice (some q) len cap') lo' hi' mx').run P w =
      .ok (.slice (some (if (if mx.isNone then cap' else c) = l then q else q.add (l * size))) (h - l) ((if mx.isNone then cap' else c) - l)) w ∧ l ≤ h ∧ h ≤ c ∧ c ≤ cap ∧ (mx = none → c = cap) := by
    intro q cap' hc hl
    obtain ⟨g1, g2⟩ := hrun (some q) cap' hc hl
    refine ⟨?_, g2⟩
    rw [g1]
    congr 2
    by_cases hq : (if mx.isNone then cap' else c) = l
    · rw [if_pos hq, if_pos hq]
    · rw [if_neg hq, if_neg hq]; rfl
  cases hv with
  | cell hv =>
    cases hv with
    | plain hp =>
      have : p = none ∧ len = 0 ∧ cap = 0 := by
        cases p with
        | some _ => simp [plainV] at hp
        | none => simp only [plainV] at hp; split at hp <;> simp_all
      obtain ⟨rfl, rfl, rfl⟩ := this
      obtain ⟨g1, g2, g3, g4, g5⟩ := hrun none 0 (Nat.le_refl _) (Nat.le_refl _)
      simp only [xsliceR, Option.some.injEq] at hr
      subst hr
      have e1 : h - l = 0 := by omega
      have e2 : c - l = 0 := by omega
      refine ⟨_, g1, ?_⟩
      have e3 : (if mx.isNone then 0 else c) - l = 0 := by split <;> omega
      rw [e1, e2, e3]
      simp only [Option.map_none, ite_self]
      exact .cell (.plain rfl)
    | slice hsp hc hl =>
      rename_i b k
      obtain ⟨g1, g2, g3, g4, g5⟩ := hrunS ⟨k.blk, k.off + b.off, none⟩ cap (Nat.le_refl _) hl
      simp only [xsliceR, hsp, Option.some.injEq] at hr
      subst hr
      have e1 : (if mx.isNone then cap else c) = c := by
        split
        · rename_i hn; exact (g5 (by simpa using hn)).symm
        · rfl
      rw [e1] at g1
      refine ⟨_, g1, ?_⟩
      split
      · exact .cell (.slice hsp hc (by omega))
      · simp only [Addr.add_lit, Nat.add_assoc]
        exact .cell (.slice (a := ⟨b.block, b.off + l * size, none⟩) rfl hc (by omega))
    | zero hsp =>
      rename_i b b'
      obtain ⟨g1, g2, g3, g4, g5⟩ := hrunS b' 0 (Nat.le_refl _) (Nat.le_refl _)
      simp only [xsliceR, hsp, Option.some.injEq] at hr
      have e1 : h - l = 0 := by omega
      have e2 : c - l = 0 := by omega
      rw [e1, e2] at hr
      subst hr
      refine ⟨_, g1, ?_⟩
      have e3 : (if mx.isNone then 0 else c) - l = 0 := by split <;> omega
      rw [e1, e3]
      exact .cell (.zero hsp)
    | slack hsp hc hl hcap hmax hx =>
      rename_i b b' k cap'
      obtain ⟨g1, g2, g3, g4, g5⟩ := hrunS b' cap' hcap hl
      simp only [xsliceR, hsp] at hr
      split at hr
      · rename_i hm
        obtain ⟨um, rfl⟩ := Option.isSome_iff_exists.1 hm
        simp only [Option.some.injEq] at hr
        subst hr
        simp only [Option.isNone_some, Bool.false_eq_true, if_false] at g1
        refine ⟨_, g1, ?_⟩
        split
        · rename_i hcl
          have e1 : h - l = 0 := by omega
          have e2 : c - l = 0 := by omega
          rw [e1, e2]
          exact .cell (.zero (a := ⟨b.block, b.off, some 1⟩) rfl)
        · rename_i hcl
          obtain ⟨rfl, hxr⟩ := hx.resolve_left (by omega)
          simp only [Addr.add_lit, Nat.add_assoc]
          exact .cell (.slice (a := ⟨b.block, b.off + l * size, none⟩) rfl hc (by omega))
      · rename_i hm
        have hmn : mx = none := by cases mx with | none => rfl | some _ => simp at hm
        subst hmn
        simp only [Option.isNone_none, if_true] at g1
        split at hr
        case h_2 => simp at hr
        rename_i o ho
        split at hr
        case isFalse => simp at hr
        rename_i hspare
        simp only [Option.some.injEq] at hr
        subst hr
        have hesz := (hR.obj _ _ _ ho hc).esz _ hspare
        have hcc := g5 rfl
        subst hcc
        refine ⟨_, g1, .cell (.slack (a := ⟨b.block, b.off + l * size, some 0⟩) (c := k) rfl hc (by omega) (by omega) (by omega) ?_)⟩
        rcases hx with h0 | ⟨rfl, hxr⟩
        · exact .inl (by omega)
        · by_cases hcl : cap' = l
          · exact .inl (by omega)
          · right
            rw [if_neg hcl]
            constructor
            · simp only [Addr.add_lit, Nat.add_assoc]
            · simp only
              rw [hesz] at hxr ⊢
              have : l ≤ cap' := by omega
              have h2 : (cap' - l) * size = cap' * size - l * size := Nat.sub_mul _ _ _
              have h3 : l * size ≤ cap' * size := Nat.mul_le_mul_right _ this
              omega

theorem wrap_nat {n : Nat} (h : n ≤ 9223372036854775807) : IntKind.i64.wrap (n : Int) = n := IntWalk.i64_in _ (by omega)

theorem makeSlice_sound {t el : TypeId} {zero : List Value} {bytes l c : Nat} {vl vl' vc vc' : Value} (ht : elemP P t = some el) (hz : zeroP P el = some zero) (hb : bytesP P el = some bytes)
    (hl : asNat vl = some l) (hc : asNat vc = some c) (hvl : VRel ρ vl vl') (hvc : VRel ρ vc vc') (hlc : l ≤ c) (hbc : bytes * c ≤ 281474976710656) (hc63 : c ≤ 9223372036854775807) (hR : Rel ρ m w) :
    ∃ ρ' v' w', (Instr.makeSlice t vl' vc').run P w = .ok v' w' ∧ VRel ρ' (.slice (some ⟨m.next, 0, none⟩) l c) v' ∧
      Step ρ m w ρ' (m.push { cells := zerosOf zero c, rw := true, spare := none, kin := [] }) w' := by
  have hu := elemP_spec ht
  obtain ⟨i, z, hi, hzi, rfl, hpz, hsz⟩ := zeroP_spec hz
  obtain ⟨i2, hi2, rfl⟩ := bytesP_spec hb
  rw [hi] at hi2
  cases hi2
  obtain ⟨k1, rfl, _⟩ := asNat_rel hl hvl
  obtain ⟨k2, rfl, _⟩ := asNat_rel hc hvc
  have hrow : ((Array.range (c * i.size)).map (fun x => (if c * i.size = 0 then #[] else z.cells)[x % (if c * i.size = 0 then #[] else z.cells).size]!)) = (zerosOf z.cells.toList c).toArray := by
    by_cases h0 : c * i.size = 0
    · rw [if_pos h0, h0]
      have : (zerosOf z.cells.toList c) = [] := List.eq_nil_of_length_eq_zero (by rw [zerosOf_length, Array.length_toList, hsz]; exact h0)
      simp [this]
    · rw [if_neg h0]
      apply Array.ext'
      have := zerosOf_eq z.cells c
      rw [hsz] at this
      simp only [hsz]
      rw [this]
  refine ⟨ρ.with m.next ⟨w.heap.size, 0, (zerosOf z.cells.toList c).toArray.size, 0⟩, .slice (some ⟨w.heap.size, 0, none⟩) l c, w.alloc (.cells (zerosOf z.cells.toList c).toArray el), ?_, ?_, ?_⟩
  · have e1 : IntKind.i64.wrap (l : Int) = l := wrap_nat (by omega)
    have e2 : IntKind.i64.wrap (c : Int) = c := wrap_nat hc63
    have e3 : ¬ ((i.bytes : Int) * (c : Int) > 2 ^ 48) := by
      have h1 : ((i.bytes * c : Nat) : Int) ≤ ((281474976710656 : Nat) : Int) := Int.ofNat_le.2 hbc
      rw [Int.natCast_mul] at h1
      have h48 : (2 : Int) ^ 48 = ((281474976710656 : Nat) : Int) := rfl
      rw [h48]; omega
    have hsize : (sizeOf el).run P w = .ok i.size w := by simp [sizeOf, typeInfo, hi]
    have hcond : ((decide ((c : Int) < 0) || decide ((i.bytes : Int) * (c : Int) > 2 ^ 48) || decide ((l : Int) < 0) || decide ((l : Int) > (c : Int)))) = false := by
      rw [decide_eq_false e3, decide_eq_false (show ¬ ((c : Int) < 0) by omega), decide_eq_false (show ¬ ((l : Int) < 0) by omega), decide_eq_false (show ¬ ((l : Int) > (c : Int)) by omega)]; rfl
    by_cases h0 : c * i.size = 0
    · rw [if_pos h0] at hrow
      simp only [Instr.makeSlice, Sem.run_bind, run_underlying hu, Result.andThen_ok, asInt, asIntOf, Sem.run_pure, typeInfo, run_program, hi, e1, e2]
      rw [if_neg (by simpa [or_assoc] using hcond)]
      simp only [Sem.run_bind, run_askRoom, Result.andThen_ok, Int.toNat_natCast, hsize, if_pos h0, Sem.run_pure, hrow, newRow, run_newObj_alloc]
    · rw [if_neg h0] at hrow
      simp only [Instr.makeSlice, Sem.run_bind, run_underlying hu, Result.andThen_ok, asInt, asIntOf, Sem.run_pure, typeInfo, run_program, hi, e1, e2]
      rw [if_neg (by simpa [or_assoc] using hcond)]
      simp only [Sem.run_bind, run_askRoom, Result.andThen_ok, Int.toNat_natCast, hsize, if_neg h0, zeroValue, typeInfo, run_program, hi, hzi, Sem.run_pure, hrow, newRow, run_newObj_alloc]
  · exact .cell (.slice (a := ⟨m.next, 0, none⟩) (c := ⟨w.heap.size, 0, (zerosOf z.cells.toList c).toArray.size, 0⟩) rfl (by simp [Rho.with]) hlc)
  · refine push_step (e := el) (row := (zerosOf z.cells.toList c).toArray) 0 hR ?_ (by simp) (by simp)
    rw [List.take_length]; exact .flat (zerosOf_plain hpz c)

end
end Go.Proofs.YtnlmnejellipdaaGreat.X
