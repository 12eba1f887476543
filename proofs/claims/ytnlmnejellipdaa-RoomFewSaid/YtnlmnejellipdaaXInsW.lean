/-
  Own work. slices.Insert of one element: from what the model's walk shows of its two roads (in its place; a new row) to what is asked of it.
-/
import Derived.Test.YtnlmnejellipdaaXIns
import Derived.Shelf.Spec.SlicesInsertGrow
namespace Go.Proofs.Ytnlmnejellipdaa.X
open Go Go.Proofs Go.Shelf Go.RowKit Go.Lib
set_option linter.unusedVariables false
set_option linter.unusedSimpArgs false
theorem run_copy_n {P : Program} (w : World) (dT sT ty elem : TypeId) (b o dLen dCap : Nat) (a : Addr) (sLen sCap S k : Nat) (cs : List Value)
  (hu : P.underlying dT = some (.slice elem)) (hs : (P.info? elem).map (·.size) = some S) (hk : Nat.min sLen dLen = k) (hn : cs.length = k * S)
  (hsrc : ∀ j v, cs[j]? = some v → w.cell? (a.add j) = some v) (hc : ∀ j, j < cs.length → (w.cell? ⟨b, o + j, none⟩).isSome = true) (hf : ∀ j, j < cs.length → w.frozen? ⟨b, o + j, none⟩ = false) (h1 : ∀ v ∈ cs, v.oneCell' = true) :
  (Builtin.copy_ #[dT, sT] ty #[.slice (some ⟨b, o, none⟩) dLen dCap, .slice (some a) sLen sCap]).run P w = .ok (goInt k) (w.setCells b o cs) := by
 have hl := run_loadCells_list (P := P) w a cs hsrc
 have hst := run_storeCells_cells (P := P) b o cs 0 w (by simpa using hc) (by simpa using hf) h1
 cases hq : P.info? elem with
 | none => simp [hq] at hs
 | some i =>
  have hi : i.size = S := by simpa [hq] using hs
  subst hi
  rw [hn] at hl
  simp [Builtin.copy_, run_underlying hu, Builtin.lenOf, Builtin.firstCells, sizeOf, typeInfo, hq, hk, hl, hst]
def InsShift (P : Program) (f : FuncId) (S : Nat) : Prop :=
 ∀ (b off n c i vb voff vc : Nat) (cs vs : List Value) (w : World) (hi : i < n) (hroom : n + 1 ≤ c) (hc63 : c ≤ 9223372036854775807) (hvb : vb ≠ b)
  (hcl : cs.length = n * S) (hvl : vs.length = S)
  (hcs : ∀ (j : Nat) (v : Value), cs[j]? = some v → w.cell? ⟨b, off + j, none⟩ = some v) (hsp : ∀ j, j < (n + 1) * S → (w.cell? ⟨b, off + j, none⟩).isSome = true) (hfz : ∀ j, w.frozen? ⟨b, j, none⟩ = false)
  (hvs : ∀ (j : Nat) (v : Value), vs[j]? = some v → w.cell? ⟨vb, voff + j, none⟩ = some v) (hfv : ∀ j, w.frozen? ⟨vb, j, none⟩ = false) (h1c : ∀ v ∈ cs, v.oneCell' = true) (h1v : ∀ v ∈ vs, v.oneCell' = true)
  (tA tB : TypeId) (kA kB : Nat) (hsa : w.shape? vb = some (tA, kA)) (hsb : w.shape? b = some (tB, kB)) (hkB : kB ≠ 0),
  Calls P f #[.slice (some ⟨b, off, none⟩) n c, .int .i64 i, .slice (some ⟨vb, voff, none⟩) 1 vc] w fun e w' =>
   e = .returned (.slice (some ⟨b, off, none⟩) (n + 1) c) ∧ w' = (w.drew.setCells b (off + (i + 1) * S) (cs.drop (i * S))).setCells b (off + i * S) vs
def InsGrow (P : Program) (f : FuncId) (S : Nat) (t : TypeId) : Prop :=
 ∀ (b off n c i vb voff vc : Nat) (cs vs : List Value) (w : World) (hi : i < n) (hnc : n ≤ c) (hroom : c < n + 1) (hbig : n ≤ 1000000)
  (hcl : cs.length = n * S) (hvl : vs.length = S)
  (hcs : ∀ (j : Nat) (v : Value), cs[j]? = some v → w.cell? ⟨b, off + j, none⟩ = some v)
  (hvs : ∀ (j : Nat) (v : Value), vs[j]? = some v → w.cell? ⟨vb, voff + j, none⟩ = some v) (h1c : ∀ v ∈ cs, v.oneCell' = true) (h1v : ∀ v ∈ vs, v.oneCell' = true),
  ∃ ROW : Array Value, ROW.size = grownCap w (n + 1) c t * S ∧ (∀ j, j < i * S → ROW[j]? = cs[j]?) ∧
  Calls P f #[.slice (some ⟨b, off, none⟩) n c, .int .i64 i, .slice (some ⟨vb, voff, none⟩) 1 vc] w fun e w' =>
   e = .returned (.slice (some ⟨w.heap.size, 0, none⟩) (n + 1) (grownCap w (n + 1) c t)) ∧
   w' = (((w.alloc (.cells ROW t)).drew.setCells w.heap.size (i * S) vs).drew).setCells w.heap.size ((i + 1) * S) (cs.drop (i * S))
theorem shape_of {w : World} {b j : Nat} (h : (w.cell? ⟨b, j, none⟩).isSome = true) : ∃ t k, w.shape? b = some (t, k) ∧ k ≠ 0 := by
 simp only [World.cell?] at h
 split at h
 ·rename_i c t fr hq
  refine ⟨t, c.size, by simp [World.shape?, hq], fun h0 => ?_⟩
  rw [Array.size_eq_zero_iff] at h0
  subst h0
  simp at h
 ·cases h
theorem sc_size (b : Nat) : ∀ (vs : List Value) (o : Nat) (w : World), (w.setCells b o vs).heap.size = w.heap.size
 | [], _, _ => rfl
 | v :: r, o, w => by rw [World.setCells, sc_size b r]; simp [World.setCell]
theorem sc_other (b : Nat) : ∀ (vs : List Value) (o : Nat) (w : World) (k : Nat), k ≠ b → (w.setCells b o vs).heap[k]? = w.heap[k]?
 | [], _, _, _, _ => rfl
 | v :: r, o, w, k, h => by
  rw [World.setCells, sc_other b r _ _ _ h]
  simp [World.setCell, Array.getElem?_modify, Ne.symm h]
theorem sc_os (b : Nat) : ∀ (vs : List Value) (o : Nat) (w : World), (w.setCells b o vs).os = w.os
 | [], _, _ => rfl
 | v :: r, o, w => by rw [World.setCells, sc_os b r]; rfl
theorem sc_tape (b : Nat) : ∀ (vs : List Value) (o : Nat) (w : World), (w.setCells b o vs).tape = w.tape
 | [], _, _ => rfl
 | v :: r, o, w => by rw [World.setCells, sc_tape b r]; rfl
theorem sc_out (b : Nat) : ∀ (vs : List Value) (o : Nat) (w : World), (w.setCells b o vs).output = w.output
 | [], _, _ => rfl
 | v :: r, o, w => by rw [World.setCells, sc_out b r]; rfl
theorem isSome_sc (b : Nat) (vs : List Value) (o : Nat) (w : World) (h : ∀ j, j < vs.length → (w.cell? ⟨b, o + j, none⟩).isSome = true) (x : Addr) (hx : (w.cell? x).isSome = true) : ((w.setCells b o vs).cell? x).isSome = true := by
 by_cases hb : x.block = b ∧ x.spot = none
 ·obtain ⟨xb, xo, xs⟩ := x
  obtain ⟨rfl, rfl⟩ := hb
  exact isSome_setCells _ vs o w h xo hx
 ·rw [World.cell?_setCells_out b vs o w x (fun h1 h2 => absurd ⟨h1, h2⟩ hb)]
  exact hx
theorem ins_run {P : Program} {f : FuncId} {S : Nat} {t : TypeId} (hS : 0 < S) (hsh : InsShift P f S) (hgr : InsGrow P f S t) : InsRun P f S := by
 intro b off n cap i vb voff vc cs vs w hi hnc hcap hn hvb hcl hvl hcs hsp hfz hvs hfv h1c h1v
 have hn1 : (n + 1) * S = n * S + S := Nat.succ_mul n S
 have hi1 : (i + 1) * S = i * S + S := Nat.succ_mul i S
 have hiS : i * S + S ≤ n * S := by rw [← hi1]; exact Nat.mul_le_mul_right S hi
 have hins : ∀ (j : Nat) (v : Value), (insC cs vs (i * S))[j]? = some v → (j < i * S ∧ cs[j]? = some v) ∨ (i * S ≤ j ∧ j < i * S + S ∧ vs[j - i * S]? = some v) ∨ (i * S + S ≤ j ∧ (cs.drop (i * S))[j - (i * S + S)]? = some v) := by
  intro j v h
  have htl : (cs.take (i * S)).length = i * S := by rw [List.length_take]; omega
  simp only [insC] at h
  rw [List.getElem?_append, htl] at h
  split at h
  ·rename_i hlt
   exact .inl ⟨hlt, by rw [List.getElem?_take, if_pos hlt] at h; exact h⟩
  ·rename_i hge
   rw [List.getElem?_append, hvl] at h
   split at h
   ·exact .inr (.inl ⟨by omega, by omega, h⟩)
   ·refine .inr (.inr ⟨by omega, ?_⟩)
    rw [show j - (i * S + S) = j - i * S - S by omega]
    exact h
 have hdl : (cs.drop (i * S)).length = n * S - i * S := by rw [List.length_drop, hcl]
 by_cases hroom : n + 1 ≤ cap
 ·have hcS : (n + 1) * S ≤ cap * S := Nat.mul_le_mul_right S hroom
  have hc0 : (w.cell? ⟨b, off + 0, none⟩).isSome = true := hsp 0 (by omega)
  have hv0 : (w.cell? ⟨vb, voff + 0, none⟩).isSome = true := by rw [hvs 0 _ (List.getElem?_eq_getElem (by omega))]; rfl
  obtain ⟨tB, kB, hsb, hkB⟩ := shape_of hc0
  obtain ⟨tA, kA, hsa, _⟩ := shape_of hv0
  refine (hsh b off n cap i vb voff vc cs vs w hi hroom hcap hvb hcl hvl hcs (fun j hj => hsp j (by omega)) hfz hvs hfv h1c h1v tA tB kA kB hsa hsb hkB).mono ?_
  rintro e w' ⟨rfl, rfl⟩
  have hs1 : ∀ j, j < (cs.drop (i * S)).length → (w.drew.cell? ⟨b, off + (i + 1) * S + j, none⟩).isSome = true := fun j hj => by
   rw [Nat.add_assoc]; exact hsp _ (by omega)
  have hs2 : ∀ j, j < vs.length → ((w.drew.setCells b (off + (i + 1) * S) (cs.drop (i * S))).cell? ⟨b, off + i * S + j, none⟩).isSome = true := fun j hj => by
   refine isSome_sc b _ _ _ hs1 _ ?_
   rw [Nat.add_assoc]; exact hsp _ (by omega)
  refine ⟨by rw [sc_os, sc_os]; rfl, by rw [sc_tape, sc_tape]; rfl, by rw [sc_out, sc_out]; rfl, fun a => by rw [World.frozen?_setCells, World.frozen?_setCells]; rfl, .inl ⟨rfl, hroom, by rw [sc_size, sc_size]; rfl, fun k hk => by rw [sc_other _ _ _ _ _ hk, sc_other _ _ _ _ _ hk]; rfl, fun j v hj => ?_, fun j hj => ?_, fun x hx => isSome_sc b _ _ _ hs2 _ (isSome_sc b _ _ _ hs1 _ hx)⟩⟩
  ·rcases hins j v hj with ⟨h1, h2⟩ | ⟨h1, h2, h3⟩ | ⟨h1, h2⟩
   ·rw [World.cell?_setCells_out b _ _ _ _ (fun _ _ => .inl (by simp only; omega)), World.cell?_setCells_out b _ _ _ _ (fun _ _ => .inl (by simp only; omega))]
    exact hcs j v h2
   ·have := World.cell?_setCells_in b vs (off + i * S) _ hs2 (j - i * S) (by omega)
    rw [show off + i * S + (j - i * S) = off + j by omega] at this
    rw [this]
    obtain ⟨hlt, he⟩ := List.getElem?_eq_some_iff.1 h3
    rw [he]
   ·rw [World.cell?_setCells_out b _ _ _ _ (fun _ _ => .inr (by simp only; omega))]
    obtain ⟨hlt, he⟩ := List.getElem?_eq_some_iff.1 h2
    have := World.cell?_setCells_in b (cs.drop (i * S)) (off + (i + 1) * S) _ hs1 (j - (i * S + S)) hlt
    rw [show off + (i + 1) * S + (j - (i * S + S)) = off + j by omega] at this
    rw [this, he]
  ·rw [World.cell?_setCells_out b _ _ _ _ (fun _ _ => .inr (by simp only; omega)), World.cell?_setCells_out b _ _ _ _ (fun _ _ => .inr (by simp only; omega))]
   rfl
 ·obtain ⟨ROW, hR1, hR2, hR3⟩ := hgr b off n cap i vb voff vc cs vs w hi hnc (by omega) hn hcl hvl hcs hvs h1c h1v
  refine hR3.mono ?_
  rintro e w' ⟨rfl, rfl⟩
  have hGn : n + 1 ≤ grownCap w (n + 1) cap t := grownCap_ge w _ _ _
  have hG63 : grownCap w (n + 1) cap t ≤ 9223372036854775807 := by
   have := grownCap_le_maxLen w (n + 1) cap t (by unfold maxLen; omega)
   unfold maxLen at this
   omega
  have hG5 : (n + 1) * S ≤ grownCap w (n + 1) cap t * S := Nat.mul_le_mul_right S hGn
  have hat : ∀ j, ((w.alloc (.cells ROW t)).drew).cell? ⟨w.heap.size, j, none⟩ = ROW[j]? := fun j => World.cell?_alloc_at (w := w) ROW t w.heap.size j rfl
  have hs0 : ∀ j, j < grownCap w (n + 1) cap t * S → (((w.alloc (.cells ROW t)).drew).cell? ⟨w.heap.size, j, none⟩).isSome = true := fun j hj => by
   rw [hat, Array.getElem?_eq_getElem (by omega)]; rfl
  have hs1 : ∀ j, j < vs.length → (((w.alloc (.cells ROW t)).drew).cell? ⟨w.heap.size, i * S + j, none⟩).isSome = true := fun j hj => hs0 _ (by omega)
  have hs2 : ∀ j, j < (cs.drop (i * S)).length → ((((w.alloc (.cells ROW t)).drew.setCells w.heap.size (i * S) vs).drew).cell? ⟨w.heap.size, (i + 1) * S + j, none⟩).isSome = true := fun j hj =>
   isSome_sc w.heap.size vs (i * S) ((w.alloc (.cells ROW t)).drew) hs1 ⟨w.heap.size, (i + 1) * S + j, none⟩ (hs0 _ (by omega))
  refine ⟨by rw [sc_os]; show ((w.alloc (.cells ROW t)).drew.setCells _ _ _).os = _; rw [sc_os]; rfl, by rw [sc_tape]; show ((w.alloc (.cells ROW t)).drew.setCells _ _ _).tape = _; rw [sc_tape]; rfl,
   by rw [sc_out]; show ((w.alloc (.cells ROW t)).drew.setCells _ _ _).output = _; rw [sc_out]; rfl, fun a => ?_, .inr ⟨_, by omega, hGn, hG63, rfl, ?_, fun k hk => ?_, fun j v hj => ?_, fun j hj => ?_⟩⟩
  ·rw [World.frozen?_setCells]
   show ((w.alloc (.cells ROW t)).drew.setCells _ _ _).frozen? a = _
   rw [World.frozen?_setCells]
   show (w.alloc (.cells ROW t)).frozen? a = _
   by_cases ha : a.block = w.heap.size
   ·have e1 : (w.alloc (.cells ROW t)).heap[a.block]? = some (.cells ROW t) := by rw [ha]; show (w.heap.push _)[w.heap.size]? = _; simp
    have e2 : w.heap[a.block]? = none := by rw [ha]; simp
    simp [World.frozen?, e1, e2]
    try omega
   ·exact World.frozen?_alloc_old w _ a ha
  ·rw [sc_size]
   show ((w.alloc (.cells ROW t)).drew.setCells _ _ _).heap.size = _
   rw [sc_size]
   show (w.heap.push _).size = _
   simp
  ·rw [sc_other _ _ _ _ _ (by omega)]
   show ((w.alloc (.cells ROW t)).drew.setCells _ _ _).heap[k]? = _
   rw [sc_other _ _ _ _ _ (by omega)]
   show (w.heap.push _)[k]? = _
   rw [Array.getElem?_push, if_neg (by omega)]
  ·rcases hins j v hj with ⟨h1, h2⟩ | ⟨h1, h2, h3⟩ | ⟨h1, h2⟩
   ·rw [World.cell?_setCells_out _ _ _ _ _ (fun _ _ => .inl (by simp only; omega))]
    show ((w.alloc (.cells ROW t)).drew.setCells _ _ _).cell? _ = _
    rw [World.cell?_setCells_out _ _ _ _ _ (fun _ _ => .inl (by simp only; omega)), hat, hR2 j h1]
    exact h2
   ·rw [World.cell?_setCells_out _ _ _ _ _ (fun _ _ => .inl (by simp only; omega))]
    show ((w.alloc (.cells ROW t)).drew.setCells _ _ _).cell? _ = _
    have := World.cell?_setCells_in w.heap.size vs (i * S) _ hs1 (j - i * S) (by omega)
    rw [show i * S + (j - i * S) = j by omega] at this
    rw [this]
    obtain ⟨hlt, he⟩ := List.getElem?_eq_some_iff.1 h3
    rw [he]
   ·obtain ⟨hlt, he⟩ := List.getElem?_eq_some_iff.1 h2
    have := World.cell?_setCells_in w.heap.size (cs.drop (i * S)) ((i + 1) * S) _ hs2 (j - (i * S + S)) hlt
    rw [show (i + 1) * S + (j - (i * S + S)) = j by omega] at this
    rw [this, he]
  ·refine isSome_sc w.heap.size _ _ _ hs2 _ ?_
   exact isSome_sc w.heap.size vs (i * S) ((w.alloc (.cells ROW t)).drew) hs1 ⟨w.heap.size, j, none⟩ (hs0 j hj)
end Go.Proofs.Ytnlmnejellipdaa.X
