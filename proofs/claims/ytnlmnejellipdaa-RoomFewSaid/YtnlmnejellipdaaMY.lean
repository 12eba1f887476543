/-
  Own work. Writes: may they be? The room: one more version of a key; is there space for writes? The room: is there space for writes? The room: writes are committed.
-/
import Derived.Test.YtnlmnejellipdaaMX
namespace Go.Proofs.Ytnlmnejellipdaa
open Go X
set_option maxRecDepth 100000
attribute [local irreducible] X.Go' X.GoO X.GoR X.GoG X.GoC X.GoF X.GoFV X.GoFG X.Ex X.GoD X.GoDV X.GoDG
set_option linter.unusedVariables false
set_option linter.unusedSimpArgs false
structure Wt where
 key : ByteArray
 gone : Bool
 num : Bool
 text : ByteArray
 bits : Nat
abbrev Wt.Wf (x : Wt) : Prop := x.bits < 18446744073709551616
abbrev Wt.val (x : Wt) : List Value := [.bool x.num, .string x.text, U (x.bits : Int)]
abbrev Wt.row (x : Wt) : List Value := [.string x.key, .bool x.gone, .bool x.num, .string x.text, U (x.bits : Int)]
abbrev RdW (b : Nat) (m : Mem) (v : Value) (ws : List Wt) : Prop := RdS b m 5 v (ws.map Wt.row)
def Wt.ver (x : Wt) (n : Int) : Ver := ⟨n, x.gone, x.num, x.text, x.bits⟩
section
variable {b : Nat} {m m' : Mem} {v : Value} {ws : List Wt} {x : Wt}
theorem rdw_slice (h : RdW b m v ws) : ∃ p c, v = .slice p ws.length c := by
 obtain ⟨p, c, rfl⟩ := h.slice
 exact ⟨p, c, by simp⟩
theorem rdw_at (h : RdW b m v ws) {i : Nat} (hi : ws[i]? = some x) : ∃ a c, v = .slice (some a) ws.length c ∧ ldA m 5 (.pointer (some ⟨a.block, a.off + i * 5, none⟩)) = some (.val (.agg ⟨x.row⟩) m) ∧ ∃ o, m.get a.block = some o ∧ o.cells[a.off + i * 5]? = some (.string x.key) := by
 obtain ⟨p, c, rfl, hc, h⟩ := h
 obtain ⟨h1, a, o, rfl, h3, h4, h5⟩ := h i x.row (by simp [hi])
 refine ⟨a, c, by simp, ?_, o, h4, by simpa using h5 0 (by omega)⟩
 have := xload_cells (m := m) (b := a.block) (off := a.off + i * 5) (n := 5) (r := x.row) h4 rfl (by omega) h5
 simp [ldA, this]
theorem ldw_val {q : Nat} (hg : m.get q = some { cells := x.row, rw := true, spare := none, kin := [] }) : ldA m 3 (.pointer (some ⟨q, 2, none⟩)) = some (.val (.agg ⟨x.val⟩) m) := by simp [ldA, xload, hg]
def keyOk (k : ByteArray) : Bool := decide (1 ≤ k.size) && decide (k.size ≤ 32)
theorem within_spec {a l h : Int} : Ca 23 [I a, I l, I h] m (.bool (decide (l ≤ a) && decide (a ≤ h))) m := by
 refine callX_of (call_go (F := _) rfl rfl fun Q hQ => ?_)
 by_cases h1 : l ≤ a
 ·have e : (decide (l ≤ a) && decide (a ≤ h)) = decide (a ≤ h) := by simp [h1]
  rw [e] at hQ
  simp only [symA, symB, wantedX, X.put, X.look, Arg.ev, keepOf, restrict, initEnv, Nat.reduceAdd, Nat.reduceEqDiff, ↓reduceIte, reduceCtorEq, eq_self, h1]
  exact hQ _ _ _ rfl ⟨rfl, rfl⟩
 ·have e : (decide (l ≤ a) && decide (a ≤ h)) = false := by simp [h1]
  rw [e] at hQ
  simp only [symA, symB, wantedX, X.put, X.look, Arg.ev, keepOf, restrict, initEnv, Nat.reduceAdd, Nat.reduceEqDiff, ↓reduceIte, reduceCtorEq, eq_self, undef, h1]
  exact hQ _ _ _ rfl ⟨rfl, rfl⟩
theorem key_spec {k : ByteArray} : Ca 30 [.string k] m (.bool (keyOk k)) m := by
 refine callX_of (call_go (F := _) rfl rfl fun Q hQ => ?_)
 have h := within_spec (m := m) (a := (k.size : Int)) (l := 1) (h := 32)
 have e : (decide ((1 : Int) ≤ (k.size : Int)) && decide ((k.size : Int) ≤ 32)) = keyOk k := by
  unfold keyOk
  rw [decide_eq_decide.2 (show (1 : Int) ≤ (k.size : Int) ↔ 1 ≤ k.size by omega), decide_eq_decide.2 (show (k.size : Int) ≤ 32 ↔ k.size ≤ 32 by omega)]
 rw [e] at h
 simp only [symA, symB, X.put, X.look, Arg.ev, keepOf, restrict, evs, initEnv, ↓reduceIte, reduceCtorEq, eq_self, Chn.calc_len, goR_call h]
 exact hQ _ _ _ rfl ⟨rfl, rfl⟩
def iszW (x : Wt) : Bool := !x.num && decide (x.text = .empty) && decide (x.bits = 0)
def okW (x : Wt) : Bool := keyOk x.key && Chn.vright x.num x.text x.bits && (!x.gone || iszW x)
def aheadK (p : Option ByteArray) (k : ByteArray) : Bool := match p with | none => true | some q => decide (ltT q k)
def mayG : Option ByteArray → List Wt → Bool
 | _, [] => true
 | p, x :: l => okW x && aheadK p x.key && mayG (some x.key) l
def mayW (ws : List Wt) : Bool := mayG none ws && (decide (1 ≤ ws.length) && decide (ws.length ≤ 16))
def prevK (ws : List Wt) (i : Nat) : Option ByteArray := if i = 0 then none else (ws[i - 1]?).map Wt.key
theorem iszW_eq (x : Wt) : (decide (x.num = false) && decide (x.text = .empty) && decide ((x.bits : Int) = 0)) = iszW x := Chn.isz_eq (x.ver 0)
theorem may_step {i : Nat} (hi : ws[i]? = some x) : mayG (prevK ws i) (ws.drop i) = (okW x && aheadK (prevK ws i) x.key && mayG (prevK ws (i + 1)) (ws.drop (i + 1))) := by
 have hd : ws.drop i = x :: ws.drop (i + 1) := by
  obtain ⟨hl, rfl⟩ := List.getElem?_eq_some_iff.1 hi
  exact List.drop_eq_getElem_cons hl
 have hp : prevK ws (i + 1) = some x.key := by
  unfold prevK
  rw [if_neg (by omega), Nat.add_sub_cancel, hi]; rfl
 rw [hd, hp]; rfl
set_option maxHeartbeats 1000000 in
theorem may_spec (h : RdW b m v ws) (hw : ∀ x ∈ ws, x.Wf) (hl : ws.length ≤ 1000) (hb : b ≤ m.next) : ∃ m', Ca 13 [v] m (.bool (mayW ws)) m' ∧ Nx m m' := by
 have key : Wc 13 [v] m fun r m' => r = .bool (mayW ws) ∧ Nx m m' := by
  refine call_go (F := _) rfl rfl fun Q hQ => ?_
  obtain ⟨p, c, hv⟩ := rdw_slice h
  subst hv
  simp only [symA, symB, X.put, X.look, Arg.ev, keepOf, restrict, initEnv, Nat.reduceEqDiff, ↓reduceIte, reduceCtorEq, goInt, eq_self]
  refine loop_go (fun j e m' => ∃ i : Nat, i ≤ ws.length ∧ j = ws.length - i ∧ mayG none ws = mayG (prevK ws i) (ws.drop i) ∧ Nx m m' ∧ e = [(0, .slice p ws.length c), (5, .slice p ws.length c), (6, I (ws.length : Int)), (7, I (i : Int))]) ws.length ⟨0, by omega, rfl, rfl, .refl, rfl⟩ ?_
  rintro j e m1 N1 B1 hN hB ⟨i, hi, rfl, hm, f1, rfl⟩
  by_cases hlt : i < ws.length
  ·have hlt' : (i : Int) < (ws.length : Int) := by omega
   obtain ⟨x, hx⟩ : ∃ x, ws[i]? = some x := ⟨_, List.getElem?_eq_getElem hlt⟩
   have hxw := hw x (List.mem_of_getElem? hx)
   have h1 := h.fr f1 hb (fun _ h => h.elim)
   obtain ⟨a, c', hv, l5, _⟩ := rdw_at h1 hx
   cases hv
   obtain ⟨mP, hP⟩ : ∃ mP, m1.push { cells := [.string .empty, .bool false, .bool false, .string .empty, U 0], rw := true, spare := none, kin := [] } = mP := ⟨_, rfl⟩
   obtain ⟨m2, t1, t2, t3, t4⟩ := new_store (m := m1) (z := [.string .empty, .bool false, .bool false, .string .empty, U 0]) (row := x.row) (n := 5) rfl rfl (by omega)
   rw [hP] at t1
   have hst := may_step hx
   rw [hst] at hm
   have w1 : IntKind.i64.wrap ((i : Int) + 1) = ((i + 1 : Nat) : Int) := by rw [wrap_i64 (by omega) (by omega)]; omega
   have kk := key_spec (m := m2) (k := x.key)
   have f2 : Nx m m2 := f1.comp t3 fun _ _ h => h
   cases hk : keyOk x.key with
   | false =>
    rw [hk] at kk
    have e : mayW ws = false := by unfold mayW; rw [hm]; simp [okW, hk]
    rw [e] at hQ
    simp only [symA, symB, X.put, X.look, Arg.ev, keepOf, restrict, Nat.reduceEqDiff, ↓reduceIte, reduceCtorEq, eq_self, hlt', hlt, l5, hP, t1]
    refine goF_of ?_
    simp only [symA, symF, Nat.reduceAnd, Nat.reduceShiftLeft, Nat.zero_or, symB, wantedX, X.put, X.look, Arg.ev, keepOf, restrict, evs, cls, quiet, Nat.reduceEqDiff, ↓reduceIte, reduceCtorEq, eq_self, undef, t2, goFV3c kk]
    exact hQ _ _ _ rfl ⟨rfl, f2⟩
   | true =>
    rw [hk] at kk
    have lv := ldw_val t2
    obtain ⟨m3, r1, r2⟩ := Chn.vright_spec (m := m2) (n := x.num) (t := x.text) hxw
    have f3 : Nx m m3 := f2.comp r2 fun _ _ h => h
    have hn2 : m1.next < m2.next := by rw [t4]; omega
    have g3 := r2.get hn2 (fun h => h) t2
    have lv3 := ldw_val g3
    cases hv : Chn.vright x.num x.text x.bits with
    | false =>
     rw [hv] at r1
     have e : mayW ws = false := by unfold mayW; rw [hm]; simp [okW, hv]
     rw [e] at hQ
     simp only [symA, symB, X.put, X.look, Arg.ev, keepOf, restrict, Nat.reduceEqDiff, ↓reduceIte, reduceCtorEq, eq_self, hlt', hlt, l5, hP, t1]
     refine goF_of ?_
     simp only [symA, symF, Nat.reduceAnd, Nat.reduceShiftLeft, Nat.zero_or, symB, wantedX, X.put, X.look, Arg.ev, keepOf, restrict, evs, cls, quiet, Nat.reduceEqDiff, ↓reduceIte, reduceCtorEq, eq_self, undef, t2, goFV3c kk, lv, goFV3c r1]
     exact hQ _ _ _ rfl ⟨rfl, f3⟩
    | true =>
     rw [hv] at r1
     have e1 := Chn.ne31 (m := m3) (n := x.num) (n' := false) (t := x.text) (t' := .empty) (b := (x.bits : Int)) (b' := 0)
     rw [iszW_eq] at e1
     
     have prev : (i = 0 ∧ ¬ (0 : Int) < (i : Int) ∧ prevK ws i = none) ∨ ∃ y o, (0 : Int) < (i : Int) ∧ i - 1 < ws.length ∧ IntKind.i64.wrap ((i : Int) - 1) = ((i - 1 : Nat) : Int) ∧ m3.get a.block = some o ∧ o.cells[a.off + (i - 1) * 5]? = some (.string y) ∧ prevK ws i = some y := by
      by_cases h0 : i = 0
      ·exact .inl ⟨h0, by omega, by unfold prevK; rw [if_pos h0]⟩
      ·obtain ⟨y, hy⟩ : ∃ y, ws[i - 1]? = some y := ⟨_, List.getElem?_eq_getElem (by omega)⟩
       obtain ⟨a2, c2, hv2, _, o, q1, q2⟩ := rdw_at (h.fr f3 hb (fun _ h => h.elim)) hy
       cases hv2
       exact .inr ⟨y.key, o, by omega, by omega, by rw [wrap_i64 (by omega) (by omega)]; omega, q1, q2, by unfold prevK; rw [if_neg h0, hy]; rfl⟩
     have hgz : (x.gone = false ∨ x.gone = true ∧ iszW x = true) ∨ (x.gone = true ∧ iszW x = false) := by
      cases x.gone <;> cases iszW x <;> simp
     rcases hgz with hgz | ⟨hg, hz⟩
     ·have hok : okW x = true := by
       unfold okW
       rw [hk, hv]
       rcases hgz with hg | ⟨hg, hz⟩
       ·rw [hg]; rfl
       ·rw [hg, hz]; rfl
      rw [hok, Bool.true_and] at hm
      rcases prev with ⟨h0, h1', h2'⟩ | ⟨y, o, h1', h2', h3', h4', h5', h6'⟩
      ·rw [h2'] at hm
       rcases hgz with hg | ⟨hg, hz⟩
       ·simp only [symA, symB, X.put, X.look, Arg.ev, keepOf, restrict, Nat.reduceEqDiff, ↓reduceIte, reduceCtorEq, eq_self, hlt', hlt, l5, hP, t1]
        refine goF_of ?_
        simp only [symA, symF, Nat.reduceAnd, Nat.reduceShiftLeft, Nat.zero_or, symB, wantedX, X.put, X.look, Arg.ev, keepOf, restrict, evs, cls, quiet, Nat.reduceEqDiff, ↓reduceIte, reduceCtorEq, eq_self, undef, t2, goFV3c kk, lv, goFV3c r1, g3, hg, h1', w1]
        exact hN _ _ (ws.length - (i + 1)) (by omega) ⟨i + 1, by omega, rfl, by rw [hm]; rfl, f3, rfl⟩
       ·rw [hz] at e1
        simp only [symA, symB, X.put, X.look, Arg.ev, keepOf, restrict, Nat.reduceEqDiff, ↓reduceIte, reduceCtorEq, eq_self, hlt', hlt, l5, hP, t1]
        refine goF_of ?_
        simp only [symA, symF, Nat.reduceOr, Nat.reduceAnd, Nat.reduceShiftLeft, Nat.zero_or, symB, wantedX, X.put, X.look, Arg.ev, keepOf, restrict, evs, cls, quiet, Nat.reduceEqDiff, ↓reduceIte, reduceCtorEq, eq_self, undef, t2, goFV3c kk, lv, goFV3c r1, g3, hg, lv3, Chn.build31, e1, h1', w1]
        exact hN _ _ (ws.length - (i + 1)) (by omega) ⟨i + 1, by omega, rfl, by rw [hm]; rfl, f3, rfl⟩
      ·rw [h6'] at hm
       by_cases hlk : ltT y x.key
       ·simp only [aheadK, decide_eq_true hlk, Bool.true_and] at hm
        rcases hgz with hg | ⟨hg, hz⟩
        ·simp only [symA, symB, X.put, X.look, Arg.ev, keepOf, restrict, Nat.reduceEqDiff, ↓reduceIte, reduceCtorEq, eq_self, hlt', hlt, l5, hP, t1]
         refine goF_of ?_
         simp only [symA, symF, Nat.reduceOr, Nat.reduceAnd, Nat.reduceShiftLeft, Nat.zero_or, symB, wantedX, X.put, X.look, Arg.ev, keepOf, restrict, evs, cls, quiet, Nat.reduceEqDiff, ↓reduceIte, reduceCtorEq, eq_self, undef, t2, goFV3c kk, lv, goFV3c r1, g3, hg, h1', h3', h2', h4', h5', bin_sgeq, hlk, not_true, w1]
         exact hN _ _ (ws.length - (i + 1)) (by omega) ⟨i + 1, by omega, rfl, hm, f3, rfl⟩
        ·rw [hz] at e1
         simp only [symA, symB, X.put, X.look, Arg.ev, keepOf, restrict, Nat.reduceEqDiff, ↓reduceIte, reduceCtorEq, eq_self, hlt', hlt, l5, hP, t1]
         refine goF_of ?_
         simp only [symA, symF, Nat.reduceOr, Nat.reduceAnd, Nat.reduceShiftLeft, Nat.zero_or, symB, wantedX, X.put, X.look, Arg.ev, keepOf, restrict, evs, cls, quiet, Nat.reduceEqDiff, ↓reduceIte, reduceCtorEq, eq_self, t2, goFV3c kk, lv, goFV3c r1, g3, hg, lv3, Chn.build31, e1, h1', h3', h2', h4', h5', bin_sgeq, hlk, not_true, w1]
         exact hN _ _ (ws.length - (i + 1)) (by omega) ⟨i + 1, by omega, rfl, hm, f3, rfl⟩
       ·have e : mayW ws = false := by unfold mayW; rw [hm]; simp [aheadK, hlk]
        rw [e] at hQ
        rcases hgz with hg | ⟨hg, hz⟩
        ·simp only [symA, symB, X.put, X.look, Arg.ev, keepOf, restrict, Nat.reduceEqDiff, ↓reduceIte, reduceCtorEq, eq_self, hlt', hlt, l5, hP, t1]
         refine goF_of ?_
         simp only [symA, symF, Nat.reduceOr, Nat.reduceAnd, Nat.reduceShiftLeft, Nat.zero_or, symB, wantedX, X.put, X.look, Arg.ev, keepOf, restrict, evs, cls, quiet, Nat.reduceEqDiff, ↓reduceIte, reduceCtorEq, eq_self, undef, t2, goFV3c kk, lv, goFV3c r1, g3, hg, h1', h3', h2', h4', h5', bin_sgeq, hlk]
         exact hQ _ _ _ rfl ⟨rfl, f3⟩
        ·rw [hz] at e1
         simp only [symA, symB, X.put, X.look, Arg.ev, keepOf, restrict, Nat.reduceEqDiff, ↓reduceIte, reduceCtorEq, eq_self, hlt', hlt, l5, hP, t1]
         refine goF_of ?_
         simp only [symA, symF, Nat.reduceOr, Nat.reduceAnd, Nat.reduceShiftLeft, Nat.zero_or, symB, wantedX, X.put, X.look, Arg.ev, keepOf, restrict, evs, cls, quiet, Nat.reduceEqDiff, ↓reduceIte, reduceCtorEq, eq_self, t2, goFV3c kk, lv, goFV3c r1, g3, hg, lv3, Chn.build31, e1, h1', h3', h2', h4', h5', bin_sgeq, hlk]
         exact hQ _ _ _ rfl ⟨rfl, f3⟩
     ·have e : mayW ws = false := by unfold mayW; rw [hm]; simp [okW, hg, hz]
      rw [e] at hQ
      rw [hz] at e1
      simp only [symA, symB, X.put, X.look, Arg.ev, keepOf, restrict, Nat.reduceEqDiff, ↓reduceIte, reduceCtorEq, eq_self, hlt', hlt, l5, hP, t1]
      refine goF_of ?_
      simp only [symA, symF, Nat.reduceOr, Nat.reduceAnd, Nat.reduceShiftLeft, Nat.zero_or, symB, wantedX, X.put, X.look, Arg.ev, keepOf, restrict, evs, cls, quiet, Nat.reduceEqDiff, ↓reduceIte, reduceCtorEq, eq_self, undef, t2, goFV3c kk, lv, goFV3c r1, g3, hg, lv3, Chn.build31, e1]
      exact hQ _ _ _ rfl ⟨rfl, f3⟩
  ·have hlt' : ¬ (i : Int) < (ws.length : Int) := by omega
   have hd : ws.drop i = [] := List.drop_eq_nil_of_le (by omega)
   rw [hd, mayG] at hm
   have hwi := within_spec (m := m1) (a := (ws.length : Int)) (l := 1) (h := 16)
   have e : (decide ((1 : Int) ≤ (ws.length : Int)) && decide ((ws.length : Int) ≤ 16)) = mayW ws := by
    unfold mayW
    rw [hm, Bool.true_and, decide_eq_decide.2 (show (1 : Int) ≤ (ws.length : Int) ↔ 1 ≤ ws.length by omega), decide_eq_decide.2 (show (ws.length : Int) ≤ 16 ↔ ws.length ≤ 16 by omega)]
   rw [e] at hwi
   simp only [symA, symB, X.put, X.look, Arg.ev, keepOf, restrict, Nat.reduceEqDiff, ↓reduceIte, reduceCtorEq, eq_self, hlt']
   refine hB _ _ _ ?_
   simp only [symA, symB, X.put, X.look, Arg.ev, keepOf, restrict, evs, ↓reduceIte, goInt, eq_self, goR_call hwi]
   exact hQ _ _ _ rfl ⟨rfl, f1⟩
 obtain ⟨_, m', k, rfl, f⟩ := key
 exact ⟨m', k, f⟩
end
structure RoomB (b : Nat) (σ : Nat → Tag) (m : Mem) (r : Nat) (vl : Value) (rs qt ms begin seq : Int) (st : List Int) (L : RL) (c : Nat) : Prop where
 p : RoomP σ m r vl rs qt ms begin seq st L c
 low : ∀ j, j < b → σ j = .no
 le : b ≤ m.next
section
variable {b : Nat} {σ σ' : Nat → Tag} {m m' : Mem} {r : Nat} {vl v : Value} {rs qt ms begin seq : Int} {st : List Int} {L L' : RL} {c c' : Nat} {key : Key} {x : Ver} {w : Wt} {ws : List Wt}
theorem RoomP.fresh (h : RoomP σ m r vl rs qt ms begin seq st L c) : ∀ j, m.next ≤ j → σ j = .no := by
 obtain ⟨rp, tp, vc, vf, es, k, vals, cs, fr, h⟩ := h
 exact h.mem.tree.fresh
theorem RoomP.nx (h : RoomP σ m r vl rs qt ms begin seq st L c) (f : Nx m m') : RoomP σ m' r vl rs qt ms begin seq st L c := by
 obtain ⟨rp, tp, vc, vf, es, k, vals, cs, fr, h⟩ := h
 exact ⟨rp, tp, vc, vf, es, k, vals, cs, fr, h.mem.nx f, h.place, h.rel, h.ok, h.kc, h.csc⟩
theorem RoomP.sort (h : RoomP σ m r vl rs qt ms begin seq st L c) : G.Srt L ∧ L.length ≤ c := by
 obtain ⟨rp, tp, vc, vf, es, k, vals, cs, fr, h⟩ := h
 obtain ⟨s1, s2, s3, s4⟩ := h.sort
 have := h.kc
 exact ⟨s2, by omega⟩
theorem RoomP.ok (h : RoomP σ m r vl rs qt ms begin seq st L c) : OkL L := by
 obtain ⟨rp, tp, vc, vf, es, k, vals, cs, fr, h⟩ := h
 exact h.ok
theorem RoomP.le (h : RoomP σ m r vl rs qt ms begin seq st L c) (hc : c ≤ c') : RoomP σ m r vl rs qt ms begin seq st L c' := by
 obtain ⟨rp, tp, vc, vf, es, k, vals, cs, fr, h⟩ := h
 have := h.kc
 have := h.csc
 exact ⟨rp, tp, vc, vf, es, k, vals, cs, fr, h.mem, h.place, h.rel, h.ok, by omega, by omega⟩
theorem RoomP.chain (h : RoomP σ m r vl rs qt ms begin seq st L c) : ∃ v, Ca 18 [Pt r, .string key] m v m ∧ ChV σ m v (hasG key L) := by
 obtain ⟨rp, tp, vc, vf, es, k, vals, cs, fr, h⟩ := h
 obtain ⟨s1, s2, s3, s4⟩ := h.sort
 obtain ⟨v0, a1, a2, a3⟩ := chain_spec (key := key) h.mem h.place
 have hch : chainOf es cs key = hasG key L := by rw [← h.rel]; exact (room_get s1).symm
 rw [hch] at a2
 exact ⟨v0, a1, a2⟩
theorem RoomP.rseq (h : RoomP σ m r vl rs qt ms begin seq st L c) : Ca 24 [Pt r] m (I seq) m := by
 obtain ⟨rp, tp, vc, vf, es, k, vals, cs, fr, h⟩ := h
 exact rseq_spec h.mem
theorem RoomP.floor (h : RoomP σ m r vl rs qt ms begin seq st L c) (hs : Rng.Small rs begin seq st) : Ca 20 [Pt r] m (I (Rng.floorOf rs begin seq)) m := by
 obtain ⟨rp, tp, vc, vf, es, k, vals, cs, fr, h⟩ := h
 exact rfloor_spec h.mem hs
theorem RoomP.vers (h : RoomP σ m r vl rs qt ms begin seq st L c) : Ca 9 [Pt r] m (I (verL L)) m := by
 obtain ⟨rp, tp, vc, vf, es, k, vals, cs, fr, h⟩ := h
 exact rvers_spec h.mem
theorem RoomP.keys (h : RoomP σ m r vl rs qt ms begin seq st L c) : Ca 10 [Pt r] m (I (cntL L)) m := by
 obtain ⟨rp, tp, vc, vf, es, k, vals, cs, fr, h⟩ := h
 exact rkeys_spec h.mem
theorem RoomP.lay {vs : List Ver} (h : RoomP σ m r vl rs qt ms begin seq st L c) (hc : c ≤ 3900) (hv : ChV σ m v vs) (hvs : OkV vs) (hk : key.size ≤ 32) :
  ∃ m' σ', Ca 21 [Pt r, .string key, v] m (.tuple #[]) m' ∧ RoomP σ' m' r vl rs qt ms begin seq st (layL key vs L) (c + 1) ∧ GrR σ σ' m m' := by
 obtain ⟨rp, tp, vc, vf, es, k, vals, cs, fr, h⟩ := h
 obtain ⟨m', σ', d, h1, h2, h3, h4, _⟩ := lay_spec h hc hv hvs hk
 exact ⟨m', σ', h1, h2.le (by omega), h3⟩
theorem RoomP.lay0 {vs : List Ver} (h : RoomP σ m r vl rs qt ms begin seq st L c) (hc : c ≤ 3900) (hv : ChV σ m v vs) (hvs : OkV vs) (hk : key.size ≤ 32) (hg : (G.get key L).isSome = true) :
  ∃ m' σ', Ca 21 [Pt r, .string key, v] m (.tuple #[]) m' ∧ RoomP σ' m' r vl rs qt ms begin seq st (layL key vs L) c ∧ GrR σ σ' m m' := by
 obtain ⟨rp, tp, vc, vf, es, k, vals, cs, fr, h⟩ := h
 obtain ⟨m', σ', d, h1, h2, h3, _, h5⟩ := lay_spec h hc hv hvs hk
 rw [h5 hg] at h2
 exact ⟨m', σ', h1, h2, h3⟩
theorem okC_wf {vs : List Ver} (h : OkV vs) (hx : x.Wf) (ho : Chn.okC 0 (vs ++ [x]) = true) (hl : vs.length ≤ 800) : OkV (vs ++ [x]) :=
 ⟨ho, fun y hy => by
  rcases List.mem_append.1 hy with hy | hy
  ·exact h.wf y hy
  ·have : y = x := by simpa using hy
   rw [this]; exact hx, by simp; omega⟩
theorem chv_new {F : List Nat} {vs : List Ver} (h : Chn.OwnV F m' v vs) (hF : ∀ i ∈ F, m.next ≤ i) (hf : ∀ j, m.next ≤ j → σ j = .no) : ChV σ m' v vs := ⟨F, h, fun i hi => hf i (hF i hi)⟩
theorem RoomP.put (h : RoomP σ m r vl rs qt ms begin seq st L c) (hc : c ≤ 3900) (hk : key.size ≤ 32) (hx : x.Wf) (ho : Chn.okC 0 (hasG key L ++ [x]) = true) (hl : (hasG key L).length ≤ 800) :
  ∃ m' σ', Ca 16 [Pt r, .string key, .agg ⟨x.row⟩] m (I 0) m' ∧ RoomP σ' m' r vl rs qt ms begin seq st (layL key (hasG key L ++ [x]) L) (c + 1) ∧ GrR σ σ' m m' := by
 have hok := has_ok (key := key) h.sort.1 h.ok
 obtain ⟨m1, hm1⟩ : ∃ m1, m.push { cells := x.row, rw := true, spare := none, kin := [] } = m1 := ⟨_, rfl⟩
 have g1 : m1.get m.next = some { cells := x.row, rw := true, spare := none, kin := [] } := by rw [← hm1, push_self]
 have f1 : Nx m m1 := hm1 ▸ .push
 have h1 := h.nx f1
 have l5 : ldA m1 5 (.pointer (some ⟨m.next, 0, none⟩)) = some (.val (.agg ⟨x.row⟩) m1) := by simp [ldA, xload, g1]
 obtain ⟨v0, a1, a2⟩ := h1.chain (key := key)
 obtain ⟨v', m2, F, c1, c2, c3, c4⟩ := Chn.add_spec a2.rd (Nat.le_refl _) (by omega) hok.wf hx
 rw [ho] at c1 c2
 have h2 := h1.nx c4
 obtain ⟨m3, σ3, d1, d2, d3⟩ := h2.lay (key := key) hc (chv_new c2 c3 h1.fresh) (okC_wf hok hx ho hl) hk
 refine ⟨m3, σ3, callX_of (call_go (F := _) rfl rfl fun Q hQ => ?_), d2, (GrR.nx (f1.comp c4 fun _ _ h => h)).trans d3⟩
 simp only [cond_true] at c1
 simp only [symA, go_opsd, symB, X.put, X.look, Arg.ev, keepOf, restrict, initEnv, cls, quiet, Nat.reduceAdd, Nat.reduceEqDiff, ↓reduceIte, reduceCtorEq, eq_self, hm1]
 simp only [symA, symB, X.put, X.look, Arg.ev, keepOf, restrict, evs, cls, quiet, Nat.reduceEqDiff, ↓reduceIte, reduceCtorEq, eq_self, ne_eq, Nat.reducePow, Nat.reduceDiv, Nat.reduceMod, l5, goDV3c a1, goDV3c c1, goR_call d1]
 exact hQ _ _ _ rfl ⟨rfl, rfl⟩
end
def newW (w : Wt) : Int := if w.gone then 0 else ((w.key.size + Chn.wgtX (w.ver 0) : Nat) : Int)
def spStep (L : RL) (a : Int) (w : Wt) : Int := a - (livesN w.key (hasG w.key L) : Int) + newW w
def spaceL (L : RL) (ws : List Wt) : Int := ws.foldl (spStep L) (liveL L)
def spaceE (L : RL) (ws : List Wt) (seq ms qt : Int) : Int := if ms ≤ seq then 17 else if qt < spaceL L ws then 15 else 0
section
variable {L : RL} {w : Wt} {ws : List Wt} {x : Wt}
theorem okW_facts (h : okW w = true) : w.key.size ≤ 32 ∧ 1 ≤ w.key.size ∧ Chn.vright w.num w.text w.bits = true ∧ Chn.wgtX (w.ver 0) ≤ 65 ∧ (w.gone = true → iszW w = true) := by
 unfold okW keyOk at h
 simp only [Bool.and_eq_true, decide_eq_true_eq, Bool.or_eq_true, Bool.not_eq_true'] at h
 obtain ⟨⟨⟨h1, h2⟩, h3⟩, h4⟩ := h
 refine ⟨h2, h1, h3, ?_, fun hg => ?_⟩
 ·unfold Chn.wgtX
  unfold Chn.vright at h3
  show (bif w.num then 9 else 1 + w.text.size) ≤ 65
  cases hn : w.num with
  | true => simp
  | false => rw [hn] at h3; simp at h3; simp; omega
 ·rcases h4 with h4 | h4
  ·rw [hg] at h4; cases h4
  ·exact h4
theorem newW_le (h : okW w = true) : 0 ≤ newW w ∧ newW w ≤ 97 := by
 obtain ⟨h1, _, _, h2, _⟩ := okW_facts h
 unfold newW
 split <;> omega
theorem space_bound : ∀ {ws : List Wt} {a : Int}, (∀ w ∈ ws, okW w = true) → a - 97 * ws.length ≤ ws.foldl (spStep L) a ∧ ws.foldl (spStep L) a ≤ a + 97 * ws.length
 | [], a, _ => by simp
 | w :: ws, a, h => by
  have h1 := h w (by simp)
  obtain ⟨q1, q2⟩ := newW_le h1
  have q3 := lives_le (vs := hasG w.key L) (okW_facts h1).1
  obtain ⟨i1, i2⟩ := space_bound (ws := ws) (a := spStep L a w) fun x hx => h x (by simp [hx])
  have e : spStep L a w = a - (livesN w.key (hasG w.key L) : Int) + newW w := rfl
  rw [List.foldl_cons, List.length_cons]
  omega
theorem mayG_ok : ∀ {ws : List Wt} {p : Option ByteArray}, mayG p ws = true → (∀ w ∈ ws, okW w = true) ∧ (∀ k, p = some k → ∀ w ∈ ws, ltT k w.key) ∧ ws.Pairwise fun a b => ltT a.key b.key
 | [], p, _ => ⟨by simp, by simp, .nil⟩
 | w :: ws, p, h => by
  have e : mayG p (w :: ws) = (okW w && aheadK p w.key && mayG (some w.key) ws) := rfl
  rw [e] at h
  simp only [Bool.and_eq_true] at h
  obtain ⟨⟨h1, h2⟩, h3⟩ := h
  obtain ⟨i1, i2, i3⟩ := mayG_ok h3
  refine ⟨fun x hx => (List.mem_cons.1 hx).elim (fun q => q ▸ h1) (i1 x), fun k hk x hx => ?_, List.pairwise_cons.2 ⟨i2 _ rfl, i3⟩⟩
  subst hk
  have h2' : ltT k w.key := by simpa [aheadK] using h2
  rcases List.mem_cons.1 hx with rfl | hx
  ·exact h2'
  ·exact ltT_trans h2' (i2 _ rfl x hx)
theorem mayW_ok (h : mayW ws = true) : (∀ w ∈ ws, okW w = true) ∧ (ws.Pairwise fun a b => ltT a.key b.key) ∧ 1 ≤ ws.length ∧ ws.length ≤ 16 := by
 unfold mayW at h
 simp only [Bool.and_eq_true, decide_eq_true_eq] at h
 obtain ⟨h1, h2, h3⟩ := h
 obtain ⟨i1, i2, i3⟩ := mayG_ok h1
 exact ⟨i1, i3, h2, h3⟩
end
section
variable {b : Nat} {σ σ' : Nat → Tag} {m m' : Mem} {r : Nat} {vl v : Value} {rs qt ms begin seq : Int} {st : List Int} {L L' : RL} {c c' : Nat} {key : Key} {x : Ver} {w : Wt} {ws : List Wt}
theorem RoomP.row (h : RoomP σ m r vl rs qt ms begin seq st L c) : ∃ a5 a6 a7 a8, m.get r = some { cells := [vl, I rs, I qt, I ms, a5, a6, a7, a8, I (liveL L), I (cntL L), I (verL L)], rw := true, spare := none, kin := [] } := by
 obtain ⟨rp, tp, vc, vf, es, k, vals, cs, fr, h⟩ := h
 exact ⟨_, _, _, _, h.mem.get⟩
theorem space_spec (h : RoomP σ m r vl rs qt ms begin seq st L c) (hw : RdW b m v ws) (hwf : ∀ x ∈ ws, x.Wf) (hl : ws.length ≤ 1000) (hb : b ≤ m.next) (hc : c ≤ 3900) (hok : ∀ w ∈ ws, okW w = true) :
  ∃ m', Ca 14 [Pt r, v] m (I (spaceE L ws seq ms qt)) m' ∧ Nx m m' := by
 have hseq := h.rseq
 obtain ⟨a5, a6, a7, a8, hrow⟩ := h.row
 have key : Wc 14 [Pt r, v] m fun v' m' => v' = I (spaceE L ws seq ms qt) ∧ Nx m m' := by
  refine call_go (F := _) rfl rfl fun Q hQ => ?_
  obtain ⟨p, c0, hv⟩ := rdw_slice hw
  subst hv
  unfold spaceE at hQ
  by_cases hms : ms ≤ seq
  ·rw [if_pos hms] at hQ
   simp only [symA, go_opsd, symB, X.put, X.look, Arg.ev, keepOf, restrict, evs, initEnv, cls, quiet, Nat.reduceEqDiff, ↓reduceIte, reduceCtorEq, eq_self, Nat.reducePow, Nat.reduceDiv, Nat.reduceMod, hrow, goDV3c hseq, hms]
   exact hQ _ _ _ rfl ⟨rfl, .refl⟩
  rw [if_neg hms] at hQ
  simp only [symA, go_opsd, symB, X.put, X.look, Arg.ev, keepOf, restrict, evs, initEnv, cls, quiet, Nat.reduceEqDiff, ↓reduceIte, reduceCtorEq, goInt, eq_self, Nat.reducePow, Nat.reduceDiv, Nat.reduceMod, hrow, goDV3c hseq, hms]
  refine loop_go (fun j e m' => ∃ i : Nat, i ≤ ws.length ∧ j = ws.length - i ∧ Nx m m' ∧ e = [(0, Pt r), (5, I (spaceL L (ws.take i))), (20, .slice p ws.length c0), (21, I (ws.length : Int)), (22, I (i : Int))]) ws.length ⟨0, by omega, rfl, .refl, rfl⟩ ?_
  rintro j e m1 N1 B1 hN hB ⟨i, hi, rfl, f1, rfl⟩
  have hL := live_bound h.ok
  have hs := h.sort
  by_cases hlt : i < ws.length
  ·have hlt' : (i : Int) < (ws.length : Int) := by omega
   obtain ⟨x, hx⟩ : ∃ x, ws[i]? = some x := ⟨_, List.getElem?_eq_getElem hlt⟩
   have hxm := List.mem_of_getElem? hx
   have hxw := hwf x hxm
   obtain ⟨k1, k2, k3, k4, k5⟩ := okW_facts (hok x hxm)
   have h1 := hw.fr f1 hb (fun _ h => h.elim)
   obtain ⟨a, c', hv, l5, _⟩ := rdw_at h1 hx
   cases hv
   obtain ⟨mP, hP⟩ : ∃ mP, m1.push { cells := [.string .empty, .bool false, .bool false, .string .empty, U 0], rw := true, spare := none, kin := [] } = mP := ⟨_, rfl⟩
   obtain ⟨m2, t1, t2, t3, t4⟩ := new_store (m := m1) (z := [.string .empty, .bool false, .bool false, .string .empty, U 0]) (row := x.row) (n := 5) rfl rfl (by omega)
   rw [hP] at t1
   have f2 : Nx m m2 := f1.comp t3 fun _ _ h => h
   have w1 : IntKind.i64.wrap ((i : Int) + 1) = ((i + 1 : Nat) : Int) := by rw [wrap_i64 (by omega) (by omega)]; omega
   obtain ⟨v0, a1, a2⟩ := (h.nx f2).chain (key := x.key)
   have hok0 := has_ok (key := x.key) hs.1 h.ok
   obtain ⟨m3, b1, b2⟩ := lives_spec (key := x.key) a2 hok0.wf (by have := hok0.len; omega) (by omega)
   have f3 : Nx m m3 := f2.comp b2 fun _ _ h => h
   have hn2 : m1.next < m2.next := by rw [t4]; omega
   have g3 := b2.get hn2 (fun h => h) t2
   have lv3 := ldw_val g3
   have hsb := space_bound (L := L) (ws := ws.take i) (a := liveL L) fun w hw => hok w (List.mem_of_mem_take hw)
   have htl : (ws.take i).length = i := by rw [List.length_take]; omega
   rw [htl] at hsb
   have hsp : spaceL L (ws.take i) = (ws.take i).foldl (spStep L) (liveL L) := rfl
   rw [← hsp] at hsb
   have hstep : spaceL L (ws.take (i + 1)) = spaceL L (ws.take i) - (livesN x.key (hasG x.key L) : Int) + newW x := by
    unfold spaceL
    rw [List.take_add_one, hx, List.foldl_append]
    rfl
   have hll := lives_le (vs := hasG x.key L) k1
   have w2 : IntKind.i64.wrap (spaceL L (ws.take i) - (livesN x.key (hasG x.key L) : Int)) = spaceL L (ws.take i) - (livesN x.key (hasG x.key L) : Int) := wr (by omega) (by omega)
   cases hg : x.gone with
   | true =>
    have e : spaceL L (ws.take (i + 1)) = spaceL L (ws.take i) - (livesN x.key (hasG x.key L) : Int) := by
     rw [hstep]; unfold newW; rw [hg]; simp
    simp only [symA, go_opsd, symB, X.put, X.look, Arg.ev, keepOf, restrict, evs, cls, quiet, Nat.reduceEqDiff, ↓reduceIte, reduceCtorEq, eq_self, Nat.reducePow, Nat.reduceDiv, Nat.reduceMod, hlt', hlt, l5, hP, t1, t2, goDV3c a1, goDV3c b1, w2, g3, hg, w1]
    exact hN _ _ (ws.length - (i + 1)) (by omega) ⟨i + 1, by omega, rfl, f3, by rw [e]⟩
   | false =>
    obtain ⟨m4, d1, d2⟩ := Chn.vweight_spec (m := m3) (x := x.ver 0) ⟨by show (-9223372036854775808 : Int) ≤ 0; omega, by show (0 : Int) ≤ _; omega, hxw⟩ k3
    have d1' : Ca 33 [.agg ⟨x.val⟩] m3 (I (Chn.wgtX (x.ver 0) : Nat)) m4 := d1
    have g4 := d2.get (Nat.lt_of_lt_of_le hn2 b2.next) (fun h => h) g3
    have w3 : IntKind.i64.wrap ((x.key.size : Int) + (Chn.wgtX (x.ver 0) : Int)) = ((x.key.size + Chn.wgtX (x.ver 0) : Nat) : Int) := by rw [wr (by omega) (by omega)]; omega
    have e : spaceL L (ws.take (i + 1)) = spaceL L (ws.take i) - (livesN x.key (hasG x.key L) : Int) + ((x.key.size + Chn.wgtX (x.ver 0) : Nat) : Int) := by
     rw [hstep]; unfold newW; rw [hg]; simp
    have w4 : IntKind.i64.wrap (spaceL L (ws.take i) - (livesN x.key (hasG x.key L) : Int) + ((x.key.size + Chn.wgtX (x.ver 0) : Nat) : Int)) = spaceL L (ws.take (i + 1)) := by rw [wr (by omega) (by omega), e]
    simp only [symA, go_opsd, symB, X.put, X.look, Arg.ev, keepOf, restrict, evs, cls, quiet, Nat.reduceEqDiff, ↓reduceIte, reduceCtorEq, eq_self, Nat.reducePow, Nat.reduceDiv, Nat.reduceMod, hlt', hlt, l5, hP, t1, t2, goDV3c a1, goDV3c b1, w2, g3, hg, lv3, Chn.calc_len, goDV3c d1', w3, w4, g4, w1]
    exact hN _ _ (ws.length - (i + 1)) (by omega) ⟨i + 1, by omega, rfl, f3.comp d2 fun _ _ h => h, rfl⟩
  ·have hlt' : ¬ (i : Int) < (ws.length : Int) := by omega
   have hrow1 := f1.get (by
    obtain ⟨rp, tp, vc, vf, es, k, vals, cs, fr, h⟩ := h
    exact h.mem.lt) (fun h => h) hrow
   have htk : ws.take i = ws := List.take_of_length_le (by omega)
   simp only [symA, symB, X.put, X.look, Arg.ev, keepOf, restrict, Nat.reduceEqDiff, ↓reduceIte, reduceCtorEq, eq_self, hlt']
   refine hB _ _ _ ?_
   rw [htk]
   by_cases hq : qt < spaceL L ws
   ·rw [if_pos hq] at hQ
    simp only [symA, symB, X.put, X.look, Arg.ev, keepOf, restrict, Nat.reduceEqDiff, ↓reduceIte, reduceCtorEq, eq_self, hrow1, hq]
    exact hQ _ _ _ rfl ⟨rfl, f1⟩
   ·rw [if_neg hq] at hQ
    simp only [symA, symB, X.put, X.look, Arg.ev, keepOf, restrict, Nat.reduceEqDiff, ↓reduceIte, reduceCtorEq, eq_self, hrow1, hq]
    exact hQ _ _ _ rfl ⟨rfl, f1⟩
 obtain ⟨_, m', k, rfl, f⟩ := key
 exact ⟨m', k, f⟩
end
abbrev comStep (n : Int) (L : RL) (w : Wt) : RL := layL w.key (hasG w.key L ++ [w.ver n]) L
def comL (n : Int) (L : RL) (ws : List Wt) : RL := ws.foldl (comStep n) L
def SeqL (L : RL) (n : Int) : Prop := ∀ x ∈ L, ∀ y ∈ x.2, y.seq ≤ n
section
variable {L : RL} {w : Wt} {ws : List Wt} {x : Ver} {vs : List Ver} {n : Int} {k k' : Key}
theorem okC_snoc : ∀ {vs : List Ver} {p : Int}, Chn.okC p vs = true → (∀ y ∈ vs, y.seq < x.seq) → p < x.seq → Chn.rightV x = true → Chn.okC p (vs ++ [x]) = true
 | [], p, _, _, hp, hr => by simp [Chn.okC, hp, hr]
 | y :: vs, p, h, hs, hp, hr => by
  simp only [Chn.okC, Bool.and_eq_true] at h
  simp only [List.cons_append, Chn.okC, Bool.and_eq_true]
  exact ⟨h.1, okC_snoc h.2 (fun z hz => hs z (by simp [hz])) (hs y (by simp)) hr⟩
theorem has_lay (hs : G.Srt L) : hasG k (layL k' vs L) = if k = k' then vs else hasG k L := by
 unfold hasG layL
 split
 ·rename_i h
  rw [G.get_del hs]
  split
  ·rw [h]; rfl
  ·rfl
 ·rw [G.get_put hs]
  split <;> rfl
theorem has_com (hs : G.Srt L) (hk : ∀ w ∈ ws, k ≠ w.key) : hasG k (comL n L ws) = hasG k L := by
 induction ws generalizing L with
 | nil => rfl
 | cons w ws ih =>
  show hasG k (comL n (comStep n L w) ws) = _
  rw [ih (lay_sort hs) fun x hx => hk x (by simp [hx]), has_lay hs, if_neg (hk w (by simp))]
theorem has_seq (h : SeqL L n) (hs : G.Srt L) : ∀ y ∈ hasG k L, y.seq ≤ n := fun y hy => by
 unfold hasG at hy
 cases hq : G.get k L with
 | none => rw [hq] at hy; simp at hy
 | some vs => rw [hq] at hy; exact h _ (G.get_mem hs hq) y hy
theorem mem_lay {z : Key × List Ver} (hs : G.Srt L) (hz : z ∈ layL k vs L) : z ∈ L ∨ z = (k, vs) := by
 obtain ⟨A, o, B, hc⟩ := G.cut_ex hs k
 have hsub : ∀ x, x ∈ A ∨ x ∈ B → x ∈ L := fun x hx => by rw [hc.eq]; rcases hx with hx | hx <;> simp [hx]
 unfold layL at hz
 split at hz
 ·rw [hc.del] at hz
  exact .inl (hsub z (List.mem_append.1 hz))
 ·rw [hc.put] at hz
  rcases List.mem_append.1 hz with hz | hz
  ·exact .inl (hsub z (.inl hz))
  ·rcases List.mem_cons.1 hz with hz | hz
   ·exact .inr hz
   ·exact .inl (hsub z (.inr hz))
theorem seq_lay (h : SeqL L n) (hs : G.Srt L) (hv : ∀ y ∈ vs, y.seq ≤ n) : SeqL (layL k vs L) n := fun z hz => by
 rcases mem_lay hs hz with q | rfl
 ·exact h z q
 ·exact hv
theorem seq_mono {n' : Int} (h : SeqL L n) (hn : n ≤ n') : SeqL L n' := fun x hx y hy => Int.le_trans (h x hx y hy) hn
theorem seq_com (h : SeqL L n) (hs : G.Srt L) : SeqL (comL n L ws) n := by
 induction ws generalizing L with
 | nil => exact h
 | cons w ws ih => exact ih (seq_lay h hs fun y hy => by
   rcases List.mem_append.1 hy with hy | hy
   ·exact has_seq h hs y hy
   ·have : y = w.ver n := by simpa using hy
    rw [this]; exact Int.le_refl _) (lay_sort hs)
theorem right_ver (h : okW w = true) (h1 : 1 ≤ n) (h2 : n ≤ 1073741824) : Chn.rightV (w.ver n) = true := by
 obtain ⟨a1, a2, a3, a4, a5⟩ := okW_facts h
 unfold Chn.rightV
 have e : Chn.vright (w.ver n).num (w.ver n).text (w.ver n).bits = true := a3
 have e2 : (!(w.ver n).gone || Chn.isz (w.ver n)) = true := by
  show (!w.gone || iszW w) = true
  cases hg : w.gone with
  | false => rfl
  | true => rw [a5 hg]; rfl
 rw [e, e2, decide_eq_true (show 1 ≤ (w.ver n).seq from h1), decide_eq_true (show (w.ver n).seq ≤ 1073741824 from h2)]
 rfl
end
section
variable {b : Nat} {σ σ' : Nat → Tag} {m m' : Mem} {r : Nat} {vl v : Value} {rs qt ms begin seq t : Int} {st : List Int} {L L' : RL} {c c' : Nat} {key : Key} {x : Ver} {w : Wt} {ws : List Wt}
def commitE (L : RL) (ws : List Wt) (t seq ms qt : Int) (st : List Int) : Int × Int :=
 if mayW ws = false then (0, 1) else if spaceE L ws seq ms qt ≠ 0 then (0, spaceE L ws seq ms qt) else if t ≤ st.getLast?.getD 0 then (0, 1) else (seq + 1, 0)
theorem RoomP.ring (h : RoomP σ m r vl rs qt ms begin seq st L c) (hs : Rng.Small rs begin seq st) : ∃ rp, (∃ a6 a7 a8 a9 a10 a11, m.get r = some { cells := [vl, I rs, I qt, I ms, Pt rp, a6, a7, a8, a9, a10, a11], rw := true, spare := none, kin := [] }) ∧
  (t ≤ st.getLast?.getD 0 → Ca 15 [Pt rp, U t] m (.tuple #[I 0, I 1]) m) ∧
  (¬ t ≤ st.getLast?.getD 0 → ¬ 1073741824 ≤ seq → ∃ m' σ', Ca 15 [Pt rp, U t] m (.tuple #[I (seq + 1), I 0]) m' ∧ RoomP σ' m' r vl rs qt ms begin (seq + 1) (Rng.pushed rs st t) L c ∧ GrR σ σ' m m') := by
 obtain ⟨rp, tp, vc, vf, es, k, vals, cs, fr, h⟩ := h
 refine ⟨rp, ⟨_, _, _, _, _, _, h.mem.get⟩, fun ht => ?_, fun ht hq => ?_⟩
 ·obtain ⟨FS, a, _⟩ := h.mem.ring
  exact Rng.push_low a hs ht
 ·obtain ⟨m', σ', c1, c2, c3⟩ := h.mem.ring.push h.mem.tree.fresh hs ht hq
  exact ⟨m', σ', c1, ⟨rp, tp, vc, vf, es, k, vals, cs, fr, h.mem.ring2 c3 c2, h.place, h.rel, h.ok, h.kc, h.csc⟩, GrR.ch c3 rfl⟩
theorem RoomB.gr (h : RoomB b σ m r vl rs qt ms begin seq st L c) (g : GrR σ σ' m m') {seq' : Int} {st' : List Int} (p : RoomP σ' m' r vl rs qt ms begin seq' st' L' c') : RoomB b σ' m' r vl rs qt ms begin seq' st' L' c' ∧ Fm (b ≤ ·) m m' := by
 refine ⟨⟨p, fun j hj => ?_, Nat.le_trans h.le g.next⟩, g.fm.mono fun j _ hj => ?_⟩
 ·rw [g.out j (Nat.lt_of_lt_of_le hj h.le) (by rw [h.low j hj]; rfl)]; exact h.low j hj
 ·refine Nat.le_of_not_lt fun q => ?_
  rw [h.low j q] at hj; simp [rmT] at hj
theorem bver {m : Mem} {n : Int} : buildE m [I 0, .bool false, .bool false, .string .empty, U 0] [(0, 1), (1, 1), (2, 3)] [(0, I n), (1, .bool w.gone), (2, .agg ⟨w.val⟩)] = some (.val (.agg ⟨(w.ver n).row⟩) m) := by kernel_rfl
theorem commit_spec (h : RoomB b σ m r vl rs qt ms begin seq st L c) (hw : RdW b m v ws) (hwf : ∀ x ∈ ws, x.Wf) (hl : ws.length ≤ 1000) (hs : Rng.Small rs begin seq st) (hms : ms ≤ 1073741824) (hsq : SeqL L seq) (hlen : ∀ x ∈ L, x.2.length ≤ 700) (hc : c ≤ 3800) :
  ∃ m', Ca 7 [Pt r, v, U t] m (.tuple #[I (commitE L ws t seq ms qt st).1, I (commitE L ws t seq ms qt st).2]) m' ∧
   ((commitE L ws t seq ms qt st).2 ≠ 0 ∧ Nx m m' ∨ (commitE L ws t seq ms qt st).2 = 0 ∧ mayW ws = true ∧ spaceE L ws seq ms qt = 0 ∧ ¬ t ≤ st.getLast?.getD 0 ∧ ∃ σ', RoomB b σ' m' r vl rs qt ms begin (seq + 1) (Rng.pushed rs st t) (comL (seq + 1) L ws) (c + ws.length) ∧ GrR σ σ' m m') := by
 obtain ⟨m1, a1, f1⟩ := may_spec hw hwf hl h.le
 have hrow : ∃ o, m.get r = some o := by
  obtain ⟨a5, a6, a7, a8, hrow⟩ := h.p.row
  exact ⟨_, hrow⟩
 cases hm : mayW ws with
 | false =>
  have e : commitE L ws t seq ms qt st = (0, 1) := by unfold commitE; rw [if_pos hm]
  rw [e]
  rw [hm] at a1
  refine ⟨m1, callX_of (call_go (F := _) rfl rfl fun Q hQ => ?_), .inl ⟨by decide, f1⟩⟩
  simp only [symA, symB, X.put, X.look, Arg.ev, keepOf, restrict, evs, initEnv, Nat.reduceAdd, Nat.reduceEqDiff, ↓reduceIte, reduceCtorEq, eq_self, isNil_ptr', goR_call a1]
  exact hQ _ _ _ rfl ⟨rfl, rfl⟩
 | true =>
 rw [hm] at a1
 obtain ⟨hok, hpw, hl1, hl16⟩ := mayW_ok hm
 have hw1 := hw.fr f1 h.le (fun _ h => h.elim)
 have h1 := h.p.nx f1
 have hb1 : b ≤ m1.next := Nat.le_trans h.le f1.next
 obtain ⟨m2, a2, f2⟩ := space_spec (ms := ms) h1 hw1 hwf hl hb1 (by omega) hok
 have h2 := h1.nx f2
 by_cases hsp : ¬ spaceE L ws seq ms qt = 0
 ·have e : commitE L ws t seq ms qt st = (0, spaceE L ws seq ms qt) := by unfold commitE; rw [if_neg (by rw [hm]; simp), if_pos hsp]
  rw [e]
  refine ⟨m2, callX_of (call_go (F := _) rfl rfl fun Q hQ => ?_), .inl ⟨hsp, f1.comp f2 fun _ _ h => h⟩⟩
  simp only [symA, symB, X.put, X.look, Arg.ev, keepOf, restrict, evs, initEnv, Nat.reduceAdd, Nat.reduceEqDiff, ↓reduceIte, reduceCtorEq, eq_self, ne_eq, isNil_ptr', goR_call a1, goR_call a2, hsp]
  exact hQ _ _ _ rfl ⟨rfl, rfl⟩
 have hsp := Classical.not_not.1 hsp
 rw [hsp] at a2
 have hsm : seq < ms := by
  unfold spaceE at hsp
  split at hsp
  ·omega
  ·omega
 obtain ⟨rp, ⟨a6, a7, a8, a9, a10, a11, hg⟩, hlow, hpush⟩ := h2.ring (t := t) hs
 by_cases ht : t ≤ st.getLast?.getD 0
 ·have e : commitE L ws t seq ms qt st = (0, 1) := by unfold commitE; rw [if_neg (by rw [hm]; simp), if_neg (by simp [hsp]), if_pos ht]
  rw [e]
  refine ⟨m2, callX_of (call_go (F := _) rfl rfl fun Q hQ => ?_), .inl ⟨by decide, f1.comp f2 fun _ _ h => h⟩⟩
  simp only [symA, symB, X.put, X.look, Arg.ev, keepOf, restrict, evs, initEnv, Nat.reduceAdd, Nat.reduceEqDiff, ↓reduceIte, reduceCtorEq, eq_self, Int.reduceEq, ne_eq, isNil_ptr', goR_call a1, goR_call a2, hg, goR_call (hlow ht)]
  exact hQ _ _ _ rfl ⟨rfl, rfl⟩
 obtain ⟨m3, σ3, c1, c2, c3⟩ := hpush ht (by omega)
 have e : commitE L ws t seq ms qt st = (seq + 1, 0) := by unfold commitE; rw [if_neg (by rw [hm]; simp), if_neg (by simp [hsp]), if_neg ht]
 rw [e]
 have f12 : Nx m m2 := f1.comp f2 fun _ _ h => h
 have hB2 : RoomB b σ m2 r vl rs qt ms begin seq st L c := ⟨h2, h.low, Nat.le_trans h.le f12.next⟩
 obtain ⟨hB3, fb3⟩ := hB2.gr c3 c2
 obtain ⟨p, c0, hv⟩ := rdw_slice hw
 have key : Wc 7 [Pt r, v, U t] m fun r' m' => r' = .tuple #[I (seq + 1), I 0] ∧ ∃ σ', RoomB b σ' m' r vl rs qt ms begin (seq + 1) (Rng.pushed rs st t) (comL (seq + 1) L ws) (c + ws.length) ∧ GrR σ σ' m m' := by
  refine call_go (F := _) rfl rfl fun Q hQ => ?_
  subst hv
  simp only [symA, symB, X.put, X.look, Arg.ev, keepOf, restrict, evs, initEnv, Nat.reduceAdd, Nat.reduceEqDiff, ↓reduceIte, reduceCtorEq, goInt, eq_self, ne_eq, isNil_ptr', goR_call a1, goR_call a2, hg, goR_call c1]
  refine loop_go (fun j e m' => ∃ (i : Nat) (σ' : Nat → Tag), i ≤ ws.length ∧ j = ws.length - i ∧ RoomB b σ' m' r vl rs qt ms begin (seq + 1) (Rng.pushed rs st t) (comL (seq + 1) L (ws.take i)) (c + i) ∧ GrR σ σ' m m' ∧ Fm (b ≤ ·) m m' ∧ e = [(0, Pt r), (9, I (seq + 1)), (39, .slice p ws.length c0), (40, I (ws.length : Int)), (41, I (i : Int))]) ws.length ⟨0, σ3, by omega, rfl, hB3, (GrR.nx f12).trans c3, (f12.mono fun _ _ h => h.elim).comp fb3 fun _ _ h => h, rfl⟩ ?_
  rintro j e m4 N1 B1 hN hB ⟨i, σ4, hi, rfl, h4, g4, f4, rfl⟩
  by_cases hlt : i < ws.length
  ·have hlt' : (i : Int) < (ws.length : Int) := by omega
   obtain ⟨x, hx⟩ : ∃ x, ws[i]? = some x := ⟨_, List.getElem?_eq_getElem hlt⟩
   have hxm := List.mem_of_getElem? hx
   have hxw := hwf x hxm
   obtain ⟨k1, k2, k3, k4, k5⟩ := okW_facts (hok x hxm)
   obtain ⟨a, c', hv, l5, _⟩ := rdw_at (hw.fr f4 h.le (fun _ h => h)) hx
   cases hv
   obtain ⟨mP, hP⟩ : ∃ mP, m4.push { cells := [.string .empty, .bool false, .bool false, .string .empty, U 0], rw := true, spare := none, kin := [] } = mP := ⟨_, rfl⟩
   obtain ⟨m5, t1, t2, t3, t4⟩ := new_store (m := m4) (z := [.string .empty, .bool false, .bool false, .string .empty, U 0]) (row := x.row) (n := 5) rfl rfl (by omega)
   rw [hP] at t1
   have lv := ldw_val t2
   have w1 : IntKind.i64.wrap ((i : Int) + 1) = ((i + 1 : Nat) : Int) := by rw [wrap_i64 (by omega) (by omega)]; omega
   have hsL := h.p.sort.1
   have hne : ∀ w ∈ ws.take i, x.key ≠ w.key := fun w hw => by
    obtain ⟨j, hj⟩ := List.mem_iff_getElem?.1 hw
    rw [List.getElem?_take] at hj
    split at hj
    ·rename_i hji
     obtain ⟨h1, h1'⟩ := List.getElem?_eq_some_iff.1 hj
     obtain ⟨h2, h2'⟩ := List.getElem?_eq_some_iff.1 hx
     have := List.pairwise_iff_getElem.1 hpw j i h1 h2 hji
     rw [h1', h2'] at this
     exact (ltT_ne this).symm
    ·cases hj
   have hhas : hasG x.key (comL (seq + 1) L (ws.take i)) = hasG x.key L := has_com hsL hne
   have hokL := has_ok (key := x.key) hsL h.p.ok
   obtain ⟨s1, s2, s3, s4, s5, s6, s7⟩ := hs
   have hlen0 : (hasG x.key L).length ≤ 700 := by
    unfold hasG
    cases hq : G.get x.key L with
    | none => simp
    | some vs => exact hlen _ (G.get_mem hsL hq)
   have hoc : Chn.okC 0 (hasG x.key L ++ [x.ver (seq + 1)]) = true := okC_snoc hokL.ok (fun y hy => by
    have := has_seq hsq hsL y hy
    show y.seq < seq + 1
    omega) (by show (0 : Int) < seq + 1; omega) (right_ver (hok x hxm) (by omega) (by omega))
   obtain ⟨m6, σ6, d1, d2, d3⟩ := (h4.p.nx t3).put (key := x.key) (x := x.ver (seq + 1)) (by omega) k1 ⟨by show (-9223372036854775808 : Int) ≤ seq + 1; omega, by show seq + 1 ≤ (9223372036854775807 : Int); omega, hxw⟩ (by rw [hhas]; exact hoc) (by rw [hhas]; omega)
   have h5 : RoomB b σ4 m5 r vl rs qt ms begin (seq + 1) (Rng.pushed rs st t) (comL (seq + 1) L (ws.take i)) (c + i) := ⟨h4.p.nx t3, h4.low, Nat.le_trans h4.le t3.next⟩
   obtain ⟨h6, f6⟩ := h5.gr d3 d2
   have hstep : comL (seq + 1) L (ws.take (i + 1)) = layL x.key (hasG x.key (comL (seq + 1) L (ws.take i)) ++ [x.ver (seq + 1)]) (comL (seq + 1) L (ws.take i)) := by
    unfold comL
    rw [List.take_add_one, hx, List.foldl_append]
    rfl
   have B := bver (m := m5) (w := x) (n := seq + 1)
   simp only [symA, symB, X.put, X.look, Arg.ev, keepOf, restrict, evs, noTup, Nat.reduceEqDiff, ↓reduceIte, reduceCtorEq, eq_self, ne_eq, hlt', hlt, l5, hP, t1, t2, lv, B, goR_call d1, w1]
   exact hN _ _ (ws.length - (i + 1)) (by omega) ⟨i + 1, σ6, by omega, rfl, by rw [hstep]; exact h6, g4.trans ((GrR.nx t3).trans d3), f4.comp ((t3.mono fun _ _ h => h.elim).comp f6 fun _ _ h => h) fun _ _ h => h, rfl⟩
  ·have hlt' : ¬ (i : Int) < (ws.length : Int) := by omega
   have htk : ws.take i = ws := List.take_of_length_le (by omega)
   have hie : i = ws.length := by omega
   rw [htk, hie] at h4
   simp only [symA, symB, X.put, X.look, Arg.ev, keepOf, restrict, Nat.reduceEqDiff, ↓reduceIte, reduceCtorEq, eq_self, hlt']
   refine hB _ _ _ ?_
   simp only [symA, symB, X.put, X.look, Arg.ev, keepOf, restrict, Nat.reduceEqDiff, ↓reduceIte, reduceCtorEq, eq_self]
   exact hQ _ _ _ rfl ⟨rfl, σ4, h4, g4⟩
 obtain ⟨_, m', k, rfl, σ', q1, q2⟩ := key
 exact ⟨m', k, .inr ⟨rfl, rfl, hsp, ht, σ', q1, q2⟩⟩
end
end Go.Proofs.Ytnlmnejellipdaa
