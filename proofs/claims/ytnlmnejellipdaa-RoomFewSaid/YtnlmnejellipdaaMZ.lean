/-
  Own work. The room: what is over goes. A new room. Plain: behind a sweep there are few versions.
-/
import Derived.Test.YtnlmnejellipdaaMY
namespace Go.Proofs.Ytnlmnejellipdaa
open Go X
set_option maxRecDepth 100000
attribute [local irreducible] X.Go' X.GoO X.GoR X.GoG X.GoC X.GoF X.GoFV X.GoFG X.Ex X.GoD X.GoDV X.GoDG
set_option linter.unusedVariables false
set_option linter.unusedSimpArgs false
def NeL (L : RL) : Prop := ∀ x ∈ L, x.2 ≠ []
def swG (f : Int) (L : RL) : RL := (L.map fun x => (x.1, Chn.sweepV x.2 f)).filter fun x => !x.2.isEmpty
def oldL (f : Int) (L : RL) : Nat := (L.map fun x => Chn.oldV x.2 f).sum
section
variable {L A B : RL} {f : Int} {x : Key × List Ver} {vs : List Ver} {k : Key}
theorem ltT_empty {k : Key} : ¬ ltT k ByteArray.empty := fun h => by
 unfold ltT at h
 have e : ByteArray.empty.toList = [] := by first | rfl | kernel_rfl
 rw [e] at h
 cases hk : k.toList with
 | nil => rw [hk] at h; cases h
 | cons a l => rw [hk] at h; cases h
theorem keysE_all {es : List Ent} {n : Int} (hl : (es.length : Int) ≤ n) : keysE .empty n es = es.map (·.1) := by
 have e : posE .empty es = 0 := by
  unfold posE posK
  rw [List.length_eq_zero_iff, List.filter_eq_nil_iff]
  intro x _
  simpa using ltT_empty
 unfold keysE
 rw [e, List.drop_zero, List.take_of_length_le (by omega)]
theorem sweep_okV (h : OkV vs) : OkV (Chn.sweepV vs f) := by
 refine ⟨Chn.sweep_ok h.ok f, fun x hx => ?_, ?_⟩
 ·unfold Chn.sweepV at hx
  rw [if_pos h.ok] at hx
  exact h.wf x (List.mem_of_mem_drop hx)
 ·unfold Chn.sweepV
  rw [if_pos h.ok, List.length_drop]
  have := h.len; omega
theorem sweep_zero (h : OkV vs) (ho : Chn.oldV vs f = 0) : Chn.sweepV vs f = vs := by
 unfold Chn.sweepV
 rw [if_pos h.ok, ho, List.drop_zero]
theorem swG_app : swG f (A ++ B) = swG f A ++ swG f B := by simp [swG]
theorem swG_one : swG f [x] = if Chn.sweepV x.2 f = [] then [] else [(x.1, Chn.sweepV x.2 f)] := by
 unfold swG
 cases h : Chn.sweepV x.2 f <;> simp [h]
theorem swG_lo (h : ∀ x ∈ A, ltT x.1 k) : ∀ x ∈ swG f A, ltT x.1 k := fun x hx => by
 obtain ⟨y, hy, rfl⟩ := List.mem_map.1 (List.mem_filter.1 hx).1
 exact h y hy
theorem sw_step (hs : G.Srt (A ++ x :: B)) (hok : OkV x.2) (hne : x.2 ≠ []) : (if 0 < Chn.oldV x.2 f then layL x.1 (Chn.sweepV x.2 f) (swG f A ++ x :: B) else swG f A ++ x :: B) = swG f (A ++ [x]) ++ B ∧ hasG x.1 (swG f A ++ x :: B) = x.2 ∧ (G.get x.1 (swG f A ++ x :: B)).isSome = true := by
 obtain ⟨p1, p2, p3⟩ := List.pairwise_append.1 hs
 obtain ⟨p4, p5⟩ := List.pairwise_cons.1 p2
 have hc : G.Cut x.1 (swG f A ++ x :: B) (swG f A) (some x.2) B := ⟨by simp, swG_lo fun y hy => p3 y hy x (by simp), p4⟩
 refine ⟨?_, by unfold hasG; rw [hc.get]; rfl, by rw [hc.get]; rfl⟩
 rw [swG_app, swG_one, List.append_assoc]
 split
 ·unfold layL
  split
  ·rw [hc.del]; simp
  ·rw [hc.put]; simp
 ·rename_i h0
  have h0' : Chn.oldV x.2 f = 0 := by omega
  rw [sweep_zero hok h0', if_neg hne]
  simp
end
section
variable {b : Nat} {σ σ' : Nat → Tag} {m m' : Mem} {r : Nat} {vl v : Value} {rs qt ms begin seq t : Int} {st : List Int} {L L' : RL} {c c' : Nat} {key : Key} {x : Ver} {w : Wt} {ws : List Wt}
theorem RoomP.all (h : RoomP σ m r vl rs qt ms begin seq st L c) (hc : c ≤ 3900) : ∃ m' v F, Ca 17 [Pt r] m v m' ∧ OwnX F m' v ((L.map (·.1)).map sv) ∧ (∀ i ∈ F, m.next ≤ i) ∧ Nx m m' := by
 obtain ⟨rp, tp, vc, vf, es, k, vals, cs, fr, h⟩ := h
 have hlen := Len_spec h.mem.tree
 obtain ⟨s1, s2, s3, s4⟩ := h.sort
 have hkc := h.kc
 obtain ⟨m', v, F, c1, c2, c3, c4⟩ := keys_spec (key := .empty) (n := (es.length : Int)) h.mem.tree (by omega)
 rw [keysE_all (Int.le_refl _)] at c2
 have e : L.map (·.1) = es.map (·.1) := by rw [← h.rel]; simp [roomL]
 rw [e]
 have hg := h.mem.get
 refine ⟨m', v, F, callX_of (call_go (F := _) rfl rfl fun Q hQ => ?_), c2, c3, c4⟩
 simp only [symA, go_opsd, symB, X.put, X.look, Arg.ev, keepOf, restrict, evs, initEnv, cls, quiet, Nat.reduceEqDiff, ↓reduceIte, reduceCtorEq, eq_self, Nat.reducePow, Nat.reduceDiv, Nat.reduceMod, isNil_ptr', hg, goDV3c hlen, goDV3c c1]
 exact hQ _ _ _ rfl ⟨rfl, rfl⟩
theorem sweep_spec (h : RoomB b σ m r vl rs qt ms begin seq st L c) (hs : Rng.Small rs begin seq st) (hne : NeL L) (hc : c ≤ 3900) :
  ∃ m' σ', Ca 8 [Pt r] m (I (oldL (Rng.floorOf rs begin seq) L : Int)) m' ∧ RoomB b σ' m' r vl rs qt ms begin seq st (swG (Rng.floorOf rs begin seq) L) c ∧ GrR σ σ' m m' := by
 obtain ⟨f, hf⟩ : ∃ f, Rng.floorOf rs begin seq = f := ⟨_, rfl⟩
 have hfl : f ≤ 1073741824 := by
  obtain ⟨s1, s2, s3, s4, s5, s6, s7⟩ := hs
  unfold Rng.floorOf at hf; omega
 rw [hf]
 obtain ⟨m1, v, F, a1, a2, a3, a4⟩ := h.p.all hc
 have hLc := h.p.sort.2
 have hsL := h.p.sort.1
 have hokL := h.p.ok
 have key : Wc 8 [Pt r] m fun r' m' => r' = I (oldL f L : Int) ∧ ∃ σ', RoomB b σ' m' r vl rs qt ms begin seq st (swG f L) c ∧ GrR σ σ' m m' := by
  refine call_go (F := _) rfl rfl fun Q hQ => ?_
  obtain ⟨p, c0, hv⟩ := a2.slice
  simp only [List.length_map] at hv
  subst hv
  simp only [symA, symB, X.put, X.look, Arg.ev, keepOf, restrict, evs, initEnv, Nat.reduceEqDiff, ↓reduceIte, reduceCtorEq, goInt, eq_self, goR_call a1]
  refine loop_go (fun j e m' => ∃ (i : Nat) (σ' : Nat → Tag), i ≤ L.length ∧ j = L.length - i ∧ RoomB b σ' m' r vl rs qt ms begin seq st (swG f (L.take i) ++ L.drop i) c ∧ GrR σ σ' m m' ∧ OwnX F m' (.slice p L.length c0) ((L.map (·.1)).map sv) ∧ (∀ y ∈ F, σ' y = .no) ∧ e = [(0, Pt r), (3, I (oldL f (L.take i) : Int)), (9, .slice p L.length c0), (10, I (L.length : Int)), (11, I (i : Int))]) L.length ⟨0, σ, by omega, rfl, ⟨h.p.nx a4, h.low, Nat.le_trans h.le a4.next⟩, GrR.nx a4, a2, fun y hy => h.p.fresh y (a3 y hy), rfl⟩ ?_
  rintro j e m2 N1 B1 hN hB ⟨i, σ2, hi, rfl, h2, g2, o2, n2, rfl⟩
  by_cases hlt : i < L.length
  ·have hlt' : (i : Int) < (L.length : Int) := by omega
   obtain ⟨x, hx⟩ : ∃ x, L[i]? = some x := ⟨_, List.getElem?_eq_getElem hlt⟩
   have hxm := List.mem_of_getElem? hx
   obtain ⟨hxo, hxk⟩ := hokL x hxm
   have hd : L.drop i = x :: L.drop (i + 1) := by
    obtain ⟨_, rfl⟩ := List.getElem?_eq_some_iff.1 hx
    exact List.drop_eq_getElem_cons hlt
   have htk : L.take (i + 1) = L.take i ++ [x] := by rw [List.take_add_one, hx]; rfl
   have hLs : L = L.take i ++ x :: L.drop (i + 1) := by rw [← hd, List.take_append_drop]
   obtain ⟨e1, e2, e3⟩ := sw_step (f := f) (A := L.take i) (x := x) (B := L.drop (i + 1)) (by rw [← hLs]; exact hsL) hxo (hne x hxm)
   rw [← htk] at e1
   rw [hd] at h2
   obtain ⟨a, ca, oa, z1, z2, z3⟩ := rd_at o2.rd (i := i) (x := sv x.1) (by rw [List.getElem?_map, List.getElem?_map, hx]; rfl)
   simp only [List.length_map] at z1
   cases z1
   obtain ⟨v0, c1, c2⟩ := h2.p.chain (key := x.1)
   rw [e2] at c2
   have hfloor := h2.p.floor hs
   rw [hf] at hfloor
   obtain ⟨m3, d1, d2⟩ := Chn.old_spec (f := f) c2.rd hxo.wf (by have := hxo.len; omega) (by omega) (Nat.le_refl _)
   have h3 := h2.p.nx d2
   have hfloor3 := h3.floor hs
   rw [hf] at hfloor3
   have w1 : IntKind.i64.wrap ((i : Int) + 1) = ((i + 1 : Nat) : Int) := by rw [wrap_i64 (by omega) (by omega)]; omega
   have hol : oldL f (L.take (i + 1)) = oldL f (L.take i) + Chn.oldV x.2 f := by rw [htk]; simp [oldL]
   have hole := Chn.oldV_le x.2 f
   have hsum : oldL f (L.take i) ≤ i * 900 := by
    have : ∀ l : RL, (∀ x ∈ l, OkV x.2) → oldL f l ≤ l.length * 900 := by
     intro l
     induction l with
     | nil => intro _; simp [oldL]
     | cons y l ih =>
      intro hh
      have h1 := ih fun z hz => hh z (by simp [hz])
      have h2 := Chn.oldV_le y.2 f
      have h3 := (hh y (by simp)).len
      have e : oldL f (y :: l) = Chn.oldV y.2 f + oldL f l := by simp [oldL]
      rw [e, List.length_cons, Nat.add_mul]
      omega
    have := this (L.take i) fun y hy => (hokL y (List.mem_of_mem_take hy)).1
    rw [List.length_take, Nat.min_eq_left hi] at this
    exact this
   have hxl := hxo.len
   have w2 : IntKind.i64.wrap ((oldL f (L.take i) : Int) + (Chn.oldV x.2 f : Int)) = ((oldL f (L.take (i + 1)) : Nat) : Int) := by rw [wr (by omega) (by omega), hol]; omega
   by_cases h0 : 0 < Chn.oldV x.2 f
   ·have h0' : (0 : Int) < (Chn.oldV x.2 f : Int) := by omega
    rw [if_pos h0] at e1
    obtain ⟨v', m4, F', i1, i2, i3, i4⟩ := Chn.sweep_spec (f := f) (c2.nx d2).rd (fun m' hm' => ((c2.nx d2).nx hm').cut) hxo.wf (by omega) (by omega) (Nat.le_refl _)
    have h4 := h3.nx i4
    obtain ⟨m5, σ5, j1, j2, j3⟩ := h4.lay0 (key := x.1) hc (chv_new i2 i3 h3.fresh) (sweep_okV hxo) hxk e3
    rw [e1] at j2
    have h24 : RoomB b σ2 m4 r vl rs qt ms begin seq st (swG f (L.take i) ++ x :: L.drop (i + 1)) c := ⟨h4, h2.low, Nat.le_trans h2.le (Nat.le_trans d2.next i4.next)⟩
    obtain ⟨h5, f5⟩ := h24.gr j3 j2
    have o5 := ((o2.fr d2 fun _ _ h => h).fr i4 fun _ _ h => h)
    have o6 := o5.fr j3.fm fun y hy q => by rw [n2 y hy] at q; simp [rmT] at q
    simp only [symA, symB, X.put, X.look, Arg.ev, keepOf, restrict, evs, Nat.reduceEqDiff, ↓reduceIte, reduceCtorEq, eq_self, hlt', hlt, z2, z3, goR_call c1, goR_call hfloor, goR_call d1, h0', goR_call hfloor3, goR_call i1, goR_call j1, w2, w1]
    exact hN _ _ (L.length - (i + 1)) (by omega) ⟨i + 1, σ5, by omega, rfl, h5, g2.trans ((GrR.nx (d2.comp i4 fun _ _ h => h)).trans j3), o6, fun y hy => by rw [j3.out y (o5.lt y hy) (by rw [n2 y hy]; rfl)]; exact n2 y hy, rfl⟩
   ·have h0' : ¬ (0 : Int) < (Chn.oldV x.2 f : Int) := by omega
    rw [if_neg h0] at e1
    rw [e1] at h2 h3
    simp only [symA, symB, X.put, X.look, Arg.ev, keepOf, restrict, evs, Nat.reduceEqDiff, ↓reduceIte, reduceCtorEq, eq_self, hlt', hlt, z2, z3, goR_call c1, goR_call hfloor, goR_call d1, h0', w2, w1]
    exact hN _ _ (L.length - (i + 1)) (by omega) ⟨i + 1, σ2, by omega, rfl, ⟨h3, h2.low, Nat.le_trans h2.le d2.next⟩, g2.trans (GrR.nx d2), o2.fr d2 fun _ _ h => h, n2, rfl⟩
  ·have hlt' : ¬ (i : Int) < (L.length : Int) := by omega
   have htk : L.take i = L := List.take_of_length_le (by omega)
   rw [htk, List.drop_of_length_le (by omega : L.length ≤ i), List.append_nil] at h2
   simp only [symA, symB, X.put, X.look, Arg.ev, keepOf, restrict, Nat.reduceEqDiff, ↓reduceIte, reduceCtorEq, eq_self, hlt']
   refine hB _ _ _ ?_
   simp only [symA, symB, X.put, X.look, Arg.ev, keepOf, restrict, ↓reduceIte, reduceCtorEq, eq_self]
   rw [htk]
   exact hQ _ _ _ rfl ⟨rfl, σ2, h2, g2⟩
 obtain ⟨_, m', k, rfl, σ', q1, q2⟩ := key
 exact ⟨m', σ', k, q1, q2⟩
end
abbrev RdL (b : Nat) (m : Mem) (v : Value) (ls : List Int) : Prop := RdS b m 1 v (ls.map fun n => [U n])
def riseU : Int → List Int → Bool
 | _, [] => true
 | p, x :: l => decide (¬ x ≤ p) && riseU x l
def labR (ls : List Int) : Bool := decide (ls.length ≤ 6) && riseU 0 ls
def rightR (ls : List Int) (rs qt ms : Int) : Bool := labR ls && (decide (1 ≤ rs) && decide (rs ≤ 16)) && (decide (0 ≤ qt) && decide (qt ≤ 1048576)) && (decide (1 ≤ ms) && decide (ms ≤ 1073741824))
section
variable {b : Nat} {m m' : Mem} {v lv : Value} {ls : List Int} {rs qt ms seq : Int}
theorem rdl_slice (h : RdL b m v ls) : ∃ p c, v = .slice p ls.length c := by
 obtain ⟨p, c, rfl⟩ := h.slice
 exact ⟨p, c, by simp⟩
theorem rdl_at (h : RdL b m v ls) {i : Nat} {x : Int} (hi : ls[i]? = some x) : ∃ a c o, v = .slice (some a) ls.length c ∧ m.get a.block = some o ∧ o.cells[a.off + i]? = some (U x) := by
 obtain ⟨p, c, rfl, hc, h⟩ := h
 obtain ⟨h1, a, o, rfl, h3, h4, h5⟩ := h i [U x] (by simp [hi])
 exact ⟨a, c, o, by simp, h4, by simpa using h5 0 (by omega)⟩
theorem rd_up' {b b' : Nat} {m : Mem} {size : Nat} {v : Value} {rows : List (List Value)} (h : RdS b m size v rows) (hb : b ≤ b') : RdS b' m size v rows := by
 obtain ⟨p, c, h1, h2, h3⟩ := h
 refine ⟨p, c, h1, h2, fun i r hr => ?_⟩
 obtain ⟨k1, a, o, k2, k3, k4⟩ := h3 i r hr
 exact ⟨k1, a, o, k2, Nat.lt_of_lt_of_le k3 hb, k4⟩
theorem labR_spec (h : RdL b m v ls) : Ca 47 [v] m (.bool (labR ls)) m := by
 refine callX_of (call_go (F := _) rfl rfl fun Q hQ => ?_)
 obtain ⟨p, c, hv⟩ := rdl_slice h
 subst hv
 unfold labR at hQ
 by_cases h6 : (6 : Int) < (ls.length : Int)
 ·rw [decide_eq_false (by omega : ¬ ls.length ≤ 6)] at hQ
  simp only [symA, symB, X.put, X.look, Arg.ev, keepOf, restrict, initEnv, ↓reduceIte, reduceCtorEq, goInt, eq_self, h6]
  exact hQ _ _ _ rfl ⟨rfl, rfl⟩
 rw [decide_eq_true (by omega : ls.length ≤ 6), Bool.true_and] at hQ
 simp only [symA, symB, X.put, X.look, Arg.ev, keepOf, restrict, initEnv, Nat.reduceEqDiff, ↓reduceIte, reduceCtorEq, goInt, eq_self, h6]
 refine loop_go (fun j e m' => m' = m ∧ ∃ (i : Nat) (q : Int), i ≤ ls.length ∧ j = ls.length - i ∧ riseU 0 ls = riseU q (ls.drop i) ∧ e = [(3, U q), (9, .slice p ls.length c), (10, I (ls.length : Int)), (11, I (i : Int))]) ls.length ⟨rfl, 0, 0, by omega, rfl, rfl, rfl⟩ ?_
 rintro j e m1 N1 B1 hN hB ⟨rfl, i, q, hi, rfl, hr, rfl⟩
 by_cases hlt : i < ls.length
 ·have hlt' : (i : Int) < (ls.length : Int) := by omega
  obtain ⟨x, hx⟩ : ∃ x, ls[i]? = some x := ⟨_, List.getElem?_eq_getElem hlt⟩
  obtain ⟨a, c', o, hv, g1, g2⟩ := rdl_at h hx
  cases hv
  have hd : ls.drop i = x :: ls.drop (i + 1) := by
   obtain ⟨_, rfl⟩ := List.getElem?_eq_some_iff.1 hx
   exact List.drop_eq_getElem_cons hlt
  rw [hd, riseU] at hr
  have w1 : IntKind.i64.wrap ((i : Int) + 1) = ((i + 1 : Nat) : Int) := by rw [wrap_i64 (by omega) (by omega)]; omega
  by_cases hle : x ≤ q
  ·have e : riseU 0 ls = false := by rw [hr]; simp [hle]
   rw [e] at hQ
   simp only [symA, symB, X.put, X.look, Arg.ev, keepOf, restrict, Nat.reduceEqDiff, ↓reduceIte, eq_self, hlt', hlt, g1, g2, hle]
   exact hQ _ _ _ rfl ⟨rfl, rfl⟩
  ·simp only [symA, symB, X.put, X.look, Arg.ev, keepOf, restrict, Nat.reduceEqDiff, ↓reduceIte, eq_self, hlt', hlt, g1, g2, hle, w1]
   exact hN _ _ (ls.length - (i + 1)) (by omega) ⟨rfl, i + 1, x, by omega, rfl, by rw [hr]; simp [hle], rfl⟩
 ·have hlt' : ¬ (i : Int) < (ls.length : Int) := by omega
  rw [List.drop_eq_nil_of_le (by omega : ls.length ≤ i)] at hr
  rw [hr, riseU] at hQ
  simp only [symA, symB, X.put, X.look, Arg.ev, keepOf, restrict, Nat.reduceEqDiff, ↓reduceIte, eq_self, hlt']
  refine hB _ _ _ ?_
  simp only [symA, symB, X.put, X.look, Arg.ev, keepOf, restrict, ↓reduceIte, eq_self]
  exact hQ _ _ _ rfl ⟨rfl, rfl⟩
abbrev row4 (lv : Value) (rs qt ms : Int) : List Value := [lv, I rs, I qt, I ms]
theorem rright_spec (h : RdL b m lv ls) (hb : b ≤ m.next) : ∃ m', Ca 26 [.agg ⟨row4 lv rs qt ms⟩] m (.bool (rightR ls rs qt ms)) m' ∧ Nx m m' := by
 obtain ⟨m1, hm1⟩ : ∃ m1, m.push { cells := row4 lv rs qt ms, rw := true, spare := none, kin := [] } = m1 := ⟨_, rfl⟩
 have g1 : m1.get m.next = some { cells := row4 lv rs qt ms, rw := true, spare := none, kin := [] } := by rw [← hm1, push_self]
 have f1 : Nx m m1 := hm1 ▸ .push
 have hl := labR_spec (h.fr f1 hb (fun _ h => h.elim))
 refine ⟨m1, callX_of (call_go (F := _) rfl rfl fun Q hQ => ?_), f1⟩
 unfold rightR at hQ
 have w1 := within_spec (m := m1) (a := rs) (l := 1) (h := 16)
 have w2 := within_spec (m := m1) (a := qt) (l := 0) (h := 1048576)
 have w3 := within_spec (m := m1) (a := ms) (l := 1) (h := 1073741824)
 cases e1 : labR ls with
 | false =>
  rw [e1] at hQ hl
  simp only [symA, symB, wantedX, X.put, X.look, Arg.ev, keepOf, restrict, evs, initEnv, Nat.reduceEqDiff, ↓reduceIte, eq_self, undef, hm1, g1, goR_call hl]
  exact hQ _ _ _ rfl ⟨rfl, rfl⟩
 | true =>
  rw [e1, Bool.true_and] at hQ
  rw [e1] at hl
  cases e2 : (decide (1 ≤ rs) && decide (rs ≤ 16)) with
  | false =>
   rw [e2] at hQ w1
   simp only [symA, symB, wantedX, X.put, X.look, Arg.ev, keepOf, restrict, evs, initEnv, Nat.reduceEqDiff, ↓reduceIte, eq_self, undef, hm1, g1, goR_call hl, goR_call w1]
   exact hQ _ _ _ rfl ⟨rfl, rfl⟩
  | true =>
   rw [e2, Bool.true_and] at hQ
   rw [e2] at w1
   cases e3 : (decide (0 ≤ qt) && decide (qt ≤ 1048576)) with
   | false =>
    rw [e3] at hQ w2
    simp only [symA, symB, wantedX, X.put, X.look, Arg.ev, keepOf, restrict, evs, initEnv, Nat.reduceEqDiff, ↓reduceIte, eq_self, undef, hm1, g1, goR_call hl, goR_call w1, goR_call w2]
    exact hQ _ _ _ rfl ⟨rfl, rfl⟩
   | true =>
    rw [e3, Bool.true_and] at hQ
    rw [e3] at w2
    simp only [symA, symB, wantedX, X.put, X.look, Arg.ev, keepOf, restrict, evs, initEnv, Nat.reduceEqDiff, ↓reduceIte, eq_self, hm1, g1, goR_call hl, goR_call w1, goR_call w2, goR_call w3]
    exact hQ _ _ _ rfl ⟨rfl, rfl⟩
theorem bs64 {m : Mem} : buildSliceE m [U 0] 1 0 [] = some (.val (.slice (some ⟨m.next, 0, none⟩) 0 0) (m.push { cells := [], rw := true, spare := none, kin := [] })) := by kernel_rfl
theorem onesU : ones (ls.map U) = ls.map fun n => [U n] := List.map_map
theorem clone64 (h : RdL b m lv ls) (hb : b ≤ m.next) (hl : ls.length ≤ 1000) : ∃ m' v', Ca 28 [lv] m v' m' ∧ Nx m m' ∧ (∃ q c, v' = .slice q ls.length c) ∧ RdL m'.next m' v' ls := by
 obtain ⟨p, c, hv⟩ := rdl_slice h
 subst hv
 cases p with
 | none =>
  refine ⟨m, .slice none 0 0, callX_of (call_go (F := _) rfl rfl fun Q hQ => ?_), .refl, ?_, ?_⟩
  ·simp only [symA, symB, X.put, X.look, Arg.ev, keepOf, restrict, initEnv, ↓reduceIte, reduceCtorEq, eq_self]
   exact hQ _ _ _ rfl ⟨rfl, rfl⟩
  all_goals
   have : ls = [] := by
    cases ls with
    | nil => rfl
    | cons x l =>
     obtain ⟨a, c', o, q, _⟩ := rdl_at (i := 0) h rfl
     cases q
   subst this
  ·exact ⟨none, 0, rfl⟩
  ·exact .nil
 | some a =>
  obtain ⟨mA, hA⟩ : ∃ mA, m.push { cells := [], rw := true, spare := none, kin := [] } = mA := ⟨_, rfl⟩
  have fA : Nx m mA := hA ▸ .push
  have hr : RdS b mA 1 (.slice (some a) ls.length c) (ones (ls.map U)) := by
   rw [onesU]
   exact h.fr fA hb (fun _ h => h.elim)
  obtain ⟨v2, m2, F2, a2, b2, f2, _, n2⟩ := (own_empty (m := mA) (id := m.next)).append (bytes := 8) (zero := U 0) hr (by simp; omega) (by omega)
  have f2' : Nx mA m2 := f2.mono fun i _ hi => (by simp at hi)
  have B := bs64 (m := m)
  rw [hA] at B
  refine ⟨m2, v2, callX_of (call_go (F := _) rfl rfl fun Q hQ => ?_), fA.comp f2' fun _ _ h => h, ?_, ?_⟩
  ·simp only [symA, symB, X.put, X.look, Arg.ev, keepOf, restrict, initEnv, Nat.reduceEqDiff, ↓reduceIte, reduceCtorEq, eq_self, B, a2]
   exact hQ _ _ _ rfl ⟨rfl, rfl⟩
  ·obtain ⟨q, c, e⟩ := b2.slice
   exact ⟨q, c, by simpa using e⟩
  ·have := b2.rd
   rw [List.nil_append, onesU] at this
   exact this
theorem bnew {m : Mem} {rp tp : Nat} {lv : Value} (h : ∃ q l c, lv = .slice q l c) : buildE m [.slice none 0 0, I 0, I 0, I 0, .pointer none, .pointer none, .slice none 0 0, .slice none 0 0, I 0, I 0, I 0] [(0, 4), (4, 1), (5, 1), (6, 1), (7, 1), (8, 1), (9, 1), (10, 1)] [(0, .agg ⟨row4 lv rs qt ms⟩), (1, Pt rp), (2, Pt tp)] = some (.val (.agg ⟨[lv, I rs, I qt, I ms, Pt rp, Pt tp, .slice none 0 0, .slice none 0 0, I 0, I 0, I 0]⟩) m) := by
 obtain ⟨q, l, c, rfl⟩ := h
 kernel_rfl
theorem open_bad (h : RdL b m lv ls) (hb : b ≤ m.next) (hr : rightR ls rs qt ms = false ∨ ¬ (0 ≤ seq ∧ seq ≤ ms)) : ∃ m', Ca 12 [.agg ⟨row4 lv rs qt ms⟩, I seq] m (.tuple #[.pointer none, I 1]) m' ∧ Nx m m' := by
 obtain ⟨m1, hm1⟩ : ∃ m1, m.push { cells := row4 lv rs qt ms, rw := true, spare := none, kin := [] } = m1 := ⟨_, rfl⟩
 have g1 : m1.get m.next = some { cells := row4 lv rs qt ms, rw := true, spare := none, kin := [] } := by rw [← hm1, push_self]
 have f1 : Nx m m1 := hm1 ▸ .push
 have n1 : m1.next = m.next + 1 := by rw [← hm1]; simp
 have l4 : ldA m1 4 (.pointer (some ⟨m.next, 0, none⟩)) = some (.val (.agg ⟨row4 lv rs qt ms⟩) m1) := by simp [ldA, xload, g1]
 obtain ⟨m2, a1, a2⟩ := rright_spec (rs := rs) (qt := qt) (ms := ms) (h.fr f1 hb (fun _ h => h.elim)) (by omega)
 have g2 := a2.get (by omega) (fun h => h) g1
 refine ⟨m2, callX_of (call_go (F := _) rfl rfl fun Q hQ => ?_), f1.comp a2 fun _ _ h => h⟩
 cases hrr : rightR ls rs qt ms with
 | false =>
  rw [hrr] at a1
  simp only [symA, symB, X.put, X.look, Arg.ev, keepOf, restrict, initEnv, Nat.reduceEqDiff, ↓reduceIte, reduceCtorEq, eq_self, hm1]
  simp only [symA, symB, wantedX, X.put, X.look, Arg.ev, keepOf, restrict, evs, Nat.reduceEqDiff, ↓reduceIte, eq_self, undef, l4, goR_call a1]
  exact hQ _ _ _ rfl ⟨rfl, rfl⟩
 | true =>
  rw [hrr] at a1
  have hq := hr.resolve_left (by rw [hrr]; simp)
  have w1 := within_spec (m := m2) (a := seq) (l := 0) (h := ms)
  have e : (decide (0 ≤ seq) && decide (seq ≤ ms)) = false := by
   rw [Bool.and_eq_false_iff]
   by_cases h0 : 0 ≤ seq
   ·exact .inr (decide_eq_false fun h => hq ⟨h0, h⟩)
   ·exact .inl (decide_eq_false h0)
  rw [e] at w1
  simp only [symA, symB, X.put, X.look, Arg.ev, keepOf, restrict, initEnv, Nat.reduceEqDiff, ↓reduceIte, reduceCtorEq, eq_self, hm1]
  simp only [symA, symB, wantedX, X.put, X.look, Arg.ev, keepOf, restrict, evs, Nat.reduceEqDiff, ↓reduceIte, eq_self, l4, goR_call a1, g2, goR_call w1]
  exact hQ _ _ _ rfl ⟨rfl, rfl⟩
theorem open_ok (h : RdL b m lv ls) (hb : b ≤ m.next) (hl : ls.length ≤ 1000) (hr : rightR ls rs qt ms = true) (h0 : 0 ≤ seq) (hs : seq ≤ ms) :
  ∃ m' σ r vl, Ca 12 [.agg ⟨row4 lv rs qt ms⟩, I seq] m (.tuple #[Pt r, I 0]) m' ∧ RoomB b σ m' r vl rs qt ms seq seq [] [] 0 ∧ Nx m m' ∧ (∃ q c, vl = .slice q ls.length c) ∧ Rng.Small rs seq seq [] := by
 obtain ⟨m1, hm1⟩ : ∃ m1, m.push { cells := row4 lv rs qt ms, rw := true, spare := none, kin := [] } = m1 := ⟨_, rfl⟩
 have g1 : m1.get m.next = some { cells := row4 lv rs qt ms, rw := true, spare := none, kin := [] } := by rw [← hm1, push_self]
 have f1 : Nx m m1 := hm1 ▸ .push
 have n1 : m1.next = m.next + 1 := by rw [← hm1]; simp
 have l4 : ldA m1 4 (.pointer (some ⟨m.next, 0, none⟩)) = some (.val (.agg ⟨row4 lv rs qt ms⟩) m1) := by simp [ldA, xload, g1]
 obtain ⟨m2, a1, a2⟩ := rright_spec (rs := rs) (qt := qt) (ms := ms) (h.fr f1 hb (fun _ h => h.elim)) (by omega)
 rw [hr] at a1
 have g2 := a2.get (by omega) (fun h => h) g1
 have hfacts : 1 ≤ rs ∧ rs ≤ 16 ∧ 1 ≤ ms ∧ ms ≤ 1073741824 := by
  unfold rightR at hr
  simp only [Bool.and_eq_true, decide_eq_true_eq] at hr
  omega
 obtain ⟨r1, r2, r3, r4⟩ := hfacts
 have w1 := within_spec (m := m2) (a := seq) (l := 0) (h := ms)
 have e : (decide (0 ≤ seq) && decide (seq ≤ ms)) = true := by rw [decide_eq_true h0, decide_eq_true hs]; rfl
 rw [e] at w1
 obtain ⟨m3, b1, b2, b3⟩ := Rng.new_ok (m := m2) (size := rs) (seq := seq) (by omega) (by omega) (by omega) (by omega)
 have n3 := b2.lt.1
 have f3 : Nx m m3 := (f1.comp a2 fun _ _ h => h).comp b3 fun _ _ h => h
 have x2 := a2.next
 have g3 := b3.get (by omega) (fun h => h) g2
 obtain ⟨m4, v', c1, c2, ⟨q', k', c3⟩, c4⟩ := clone64 (h.fr f3 hb (fun _ h => h.elim)) (Nat.le_trans hb f3.next) hl
 have g4 := c2.get (by have := b3.next; omega) (fun h => h) g3
 obtain ⟨m5, s1, s2, s3, s4⟩ := fld_store (i := 0) (x := v') g4 (by simp) (by rw [c3]; rfl) (by rw [c3]; rfl)
 have g5 : m5.get m.next = some { cells := row4 v' rs qt ms, rw := true, spare := none, kin := [] } := s2
 have l5 : ldA m5 4 (.pointer (some ⟨m.next, 0, none⟩)) = some (.val (.agg ⟨row4 v' rs qt ms⟩) m5) := by simp [ldA, xload, g5]
 have x3 := b3.next
 have x4 := c2.next
 have x5 := s3.next
 obtain ⟨m6, d1, d2, d3, d4⟩ := new_spec (m := m5) (σ := fun j => if j = m2.next then .other 11 else .no) (fun j hj => if_neg (by omega))
 obtain ⟨m7, hm7⟩ : ∃ m7, m6.push { cells := [v', I rs, I qt, I ms, Pt m2.next, Pt m5.next, .slice none 0 0, .slice none 0 0, I 0, I 0, I 0], rw := true, spare := none, kin := [] } = m7 := ⟨_, rfl⟩
 have f7 : Nx m6 m7 := hm7 ▸ .push
 have n7 : m7.next = m6.next + 1 := by rw [← hm7]; simp
 have fm5 : Nx m m5 := (f3.comp c2 fun _ _ h => h).comp s3 fun j hj (q : j = m.next) => by omega
 have fall : Nx m m7 := (fm5.comp d2 fun _ _ h => h).comp f7 fun _ _ h => h
 obtain ⟨σt, hσt⟩ : ∃ σt : Nat → Tag, (fun j => if j = m5.next then Tag.top else if j = m2.next then .other 11 else .no) = σt := ⟨_, rfl⟩
 rw [hσt] at d4
 have tσ : ∀ j, σt j = if j = m5.next then Tag.top else if j = m2.next then .other 11 else .no := fun j => by rw [← hσt]
 have hc7 : Ch (.other 10) σt (fun j => if j = m6.next then .other 10 else σt j) m6 m7 := .nx' f7 ⟨fun j hj => if_neg (by omega), fun j hj => if_neg (by omega)⟩
 obtain ⟨σF, hF⟩ : ∃ σF : Nat → Tag, (fun j => if j = m6.next then Tag.other 10 else σt j) = σF := ⟨_, rfl⟩
 rw [hF] at hc7
 have tF : ∀ j, σF j = if j = m6.next then Tag.other 10 else σt j := fun j => by rw [← hF]
 have ring6 : RingT σt m6 m2.next rs seq seq [] := by
  refine ⟨[], ((b2.fr c2 (fun h => h) (by simp)).fr s3 (fun (q : m2.next = m.next) => by omega) (by simp)).fr d2 (fun h => h) (by simp), ?_, by simp⟩
  rw [tσ, if_neg (by omega), if_pos rfl]
 refine ⟨m7, σF, m6.next, v', callX_of (call_go (F := _) rfl rfl fun Q hQ => ?_), ⟨⟨m2.next, m5.next, .slice none 0 0, .slice none 0 0, [], 0, [], [], [], ⟨?_, ⟨by simp, by simp, by simp, by simp⟩, rfl, by simp, by omega, by simp⟩⟩, fun j hj => ?_, Nat.le_trans hb fall.next⟩, fall, ⟨q', k', c3⟩, ⟨by omega, by omega, by omega, by omega, by omega, by simp; omega, by simp⟩⟩
 ·have B := bnew (m := m6) (rp := m2.next) (tp := m5.next) (rs := rs) (qt := qt) (ms := ms) ⟨q', ls.length, k', c3⟩
  have g7 := f7.get (by have := d2.next; omega) (fun h => h) (d2.get (by omega) (fun h => h) g5)
  have l7 : ldA m7 4 (.pointer (some ⟨m.next, 0, none⟩)) = some (.val (.agg ⟨row4 v' rs qt ms⟩) m7) := by simp [ldA, xload, g7]
  have l6 : ldA m6 4 (.pointer (some ⟨m.next, 0, none⟩)) = some (.val (.agg ⟨row4 v' rs qt ms⟩) m6) := by simp [ldA, xload, d2.get (by omega) (fun h => h) g5]
  subst c3
  simp only [symA, symB, X.put, X.look, Arg.ev, keepOf, restrict, initEnv, Nat.reduceEqDiff, ↓reduceIte, reduceCtorEq, eq_self, hm1]
  simp only [symA, go_opsd, symB, wantedX, X.put, X.look, Arg.ev, keepOf, restrict, evs, noTup, cls, quiet, Nat.reduceEqDiff, ↓reduceIte, reduceCtorEq, eq_self, ne_eq, Nat.reducePow, Nat.reduceDiv, Nat.reduceMod, l4, goR_call a1, g2, goR_call w1, goR_call b1, g3, goR_call c1, s1, l5, l7, goDV3c d1, B, hm7]
  exact hQ _ _ _ rfl ⟨rfl, rfl⟩
 ·exact ⟨hm7 ▸ push_self, by rw [tF, if_pos rfl], by omega, ring6.ch hc7 (by simp), d4.cho hc7, Tg.nil, Tg.nil, rfl, fun i v vs hi => by simp at hi⟩
 ·have := fm5.next
  have := d2.next
  rw [tF, if_neg (by omega), tσ, if_neg (by omega), if_neg (by omega)]
end
def cntN (p : Ver → Bool) (L : RL) : Int := G.sum (fun _ vs => (vs.countP p : Int)) L
section
variable {L : RL} {f n : Int} {x : Key × List Ver} {vs : List Ver} {k : Key} {ws : List Wt} {p : Ver → Bool}
theorem cnt_com (hs : G.Srt L) : cntN p (comL n L ws) = cntN p L + (ws.countP fun w => p (w.ver n) : Nat) := by
 induction ws generalizing L with
 | nil => simp [comL]
 | cons w ws ih =>
  show cntN p (comL n (comStep n L w) ws) = _
  rw [ih (lay_sort hs)]
  have h1 : cntN p (comStep n L w) = cntN p L - ((hasG w.key L).countP p : Int) + ((hasG w.key L ++ [w.ver n]).countP p : Int) := lay_sum (f := fun _ vs => (vs.countP p : Int)) hs rfl
  rw [h1, List.countP_append, List.countP_cons, List.countP_cons, List.countP_nil]
  omega
theorem ver_com (hs : G.Srt L) : verL (comL n L ws) = verL L + ws.length := by
 have e : ∀ L : RL, verL L = cntN (fun _ => true) L := fun L => by unfold verL cntN; congr 1; funext _ vs; simp
 rw [e, e, cnt_com hs]
 simp
theorem seqcnt_com {n' : Int} (hs : G.Srt L) : cntN (fun y => decide (y.seq = n')) (comL n L ws) = cntN (fun y => decide (y.seq = n')) L + if n = n' then (ws.length : Int) else 0 := by
 rw [cnt_com hs]
 by_cases h : n = n'
 ·have e : (ws.countP fun w => decide ((w.ver n).seq = n')) = ws.length := List.countP_eq_length.2 fun w _ => decide_eq_true h
  rw [if_pos h, e]
 ·have e : (ws.countP fun w => decide ((w.ver n).seq = n')) = 0 := List.countP_eq_zero.2 fun w _ => by
   have h' : ¬ (w.ver n).seq = n' := h
   simp [h']
  rw [if_neg h, e]; rfl
theorem cnt_zero (h : ∀ x ∈ L, ∀ y ∈ x.2, p y = false) : cntN p L = 0 := by
 induction L with
 | nil => rfl
 | cons x L ih =>
  unfold cntN at ih ⊢
  rw [G.sum_cons, ih fun y hy => h y (by simp [hy])]
  have : x.2.countP p = 0 := List.countP_eq_zero.2 fun y hy => by rw [h x (by simp) y hy]; simp
  simp [this]
theorem cnt_above : cntN (fun y => decide (n - 1 < y.seq)) L = cntN (fun y => decide (n < y.seq)) L + cntN (fun y => decide (y.seq = n)) L := by
 induction L with
 | nil => rfl
 | cons x L ih =>
  unfold cntN at ih ⊢
  rw [G.sum_cons, G.sum_cons, G.sum_cons, ih]
  have : ∀ l : List Ver, (l.countP (fun y => decide (n - 1 < y.seq)) : Int) = (l.countP (fun y => decide (n < y.seq)) : Int) + (l.countP (fun y => decide (y.seq = n)) : Int) := by
   intro l
   induction l with
   | nil => rfl
   | cons y l ih =>
    rw [List.countP_cons, List.countP_cons, List.countP_cons]
    by_cases h1 : n < y.seq
    ·rw [decide_eq_true h1, decide_eq_true (show n - 1 < y.seq by omega), decide_eq_false (show ¬ y.seq = n by omega)]
     simp only [↓reduceIte, Bool.false_eq_true]; omega
    ·by_cases h2 : y.seq = n
     ·rw [decide_eq_false h1, decide_eq_true (show n - 1 < y.seq by omega), decide_eq_true h2]
      simp only [↓reduceIte, Bool.false_eq_true]; omega
     ·rw [decide_eq_false h1, decide_eq_false (show ¬ n - 1 < y.seq by omega), decide_eq_false h2]
      simp only [↓reduceIte, Bool.false_eq_true]; omega
  have := this x.2
  omega
theorem sweep_suffix (h : OkV vs) : Chn.sweepV vs f = vs.drop (Chn.oldV vs f) := by
 unfold Chn.sweepV
 rw [if_pos h.ok]
theorem sw_mem (hok : OkL L) (hx : x ∈ swG f L) : ∃ y ∈ L, x.1 = y.1 ∧ x.2 = Chn.sweepV y.2 f ∧ x.2 ≠ [] := by
 obtain ⟨h1, h2⟩ := List.mem_filter.1 hx
 obtain ⟨y, hy, rfl⟩ := List.mem_map.1 h1
 refine ⟨y, hy, rfl, rfl, fun e => ?_⟩
 rw [e] at h2
 simp at h2
theorem sw_ne (hok : OkL L) : NeL (swG f L) := fun x hx => by
 obtain ⟨y, _, _, _, h⟩ := sw_mem hok hx
 exact h
theorem sw_seq (hok : OkL L) (h : SeqL L n) : SeqL (swG f L) n := fun x hx z hz => by
 obtain ⟨y, hy, _, e, _⟩ := sw_mem hok hx
 rw [e, sweep_suffix (hok y hy).1] at hz
 exact h y hy z (List.mem_of_mem_drop hz)
theorem sw_len {c : Nat} (hok : OkL L) (h : ∀ x ∈ L, x.2.length ≤ c) : ∀ x ∈ swG f L, x.2.length ≤ c := fun x hx => by
 obtain ⟨y, hy, _, e, _⟩ := sw_mem hok hx
 rw [e, sweep_suffix (hok y hy).1, List.length_drop]
 have := h y hy
 omega
theorem sw_cons {y : Key × List Ver} : swG f (y :: L) = (if Chn.sweepV y.2 f = [] then [] else [(y.1, Chn.sweepV y.2 f)]) ++ swG f L := by
 have : y :: L = [y] ++ L := rfl
 rw [this, swG_app, swG_one]
theorem sw_cnt (hok : OkL L) : cntN p (swG f L) ≤ cntN p L := by
 induction L with
 | nil => exact Int.le_refl _
 | cons y L ih =>
  have := ih fun x hx => hok x (by simp [hx])
  have hc : (Chn.sweepV y.2 f).countP p ≤ y.2.countP p := by
   rw [sweep_suffix (hok y (by simp)).1]
   exact (List.drop_sublist _ _).countP_le
  have hyn : (0 : Int) ≤ (y.2.countP p : Int) := by omega
  rw [sw_cons]
  unfold cntN at this ⊢
  rw [G.sum_cons]
  split
  ·rw [List.nil_append]; omega
  ·rw [List.singleton_append, G.sum_cons]
   show ((Chn.sweepV y.2 f).countP p : Int) + _ ≤ _
   omega
theorem few_one (h : OkV vs) (hf : 0 ≤ f) (hne : Chn.sweepV vs f ≠ []) : ((Chn.sweepV vs f).length : Int) ≤ min (livesN k (Chn.sweepV vs f) : Int) 1 + 2 * ((Chn.sweepV vs f).countP fun y => decide (f < y.seq) : Nat) := by
 have hlv : (0 : Int) ≤ (livesN k (Chn.sweepV vs f) : Int) := by omega
 have hsok := Chn.sweep_ok h.ok f
 obtain ⟨hb, hp⟩ := Chn.okC_bounds (Int.le_refl 0) h.ok
 have hall : ∀ W : List Ver, (∀ y ∈ W, f < y.seq) → (W.countP fun y => decide (f < y.seq)) = W.length := fun W hW => List.countP_eq_length.2 fun y hy => decide_eq_true (hW y hy)
 by_cases h1 : 1 ≤ f
 ·have ho : Chn.oldV vs f = Chn.cutV vs (Chn.upto (Chn.seqs vs) f) := by unfold Chn.oldV; rw [if_pos ⟨h.ok, h1⟩]
  obtain ⟨u1, u2⟩ := Chn.upto_split f hp
  obtain ⟨u, hu⟩ : ∃ u, Chn.upto (Chn.seqs vs) f = u := ⟨_, rfl⟩
  rw [hu] at ho u1 u2
  have habove : ∀ y ∈ vs.drop u, f < y.seq := fun y hy => by
   obtain ⟨i, hi⟩ := List.mem_iff_getElem?.1 hy
   rw [List.getElem?_drop] at hi
   have h3 := u2 (u + i) y.seq (by show (vs.map _)[u + i]? = _; rw [List.getElem?_map, hi]; rfl)
   refine Int.lt_of_not_ge fun q => ?_
   have := h3.2 q
   omega
  rw [sweep_suffix h] at hne hsok hlv ⊢
  rw [ho] at hne hsok hlv ⊢
  unfold Chn.cutV at hne hsok hlv ⊢
  split
  ·rename_i hcut
   rw [if_pos hcut] at hne hsok hlv
   obtain ⟨hu0, hg⟩ := hcut
   obtain ⟨y, hy⟩ : ∃ y, vs[u - 1]? = some y := by
    cases hq : vs[u - 1]? with
    | none => rw [hq] at hg; cases hg
    | some y => exact ⟨y, rfl⟩
   have hyg : y.gone = false := by rw [hy] at hg; simpa using hg
   have hd : vs.drop (u - 1) = y :: vs.drop u := by
    obtain ⟨hl, rfl⟩ := List.getElem?_eq_some_iff.1 hy
    have := List.drop_eq_getElem_cons hl
    rw [this, show u - 1 + 1 = u by omega]
   rw [hd] at hsok hlv ⊢
   rw [List.countP_cons, hall _ habove, List.length_cons]
   cases hW : vs.drop u with
   | nil =>
    rw [hW] at hsok
    have hl : livesN k [y] = k.size + Chn.wgtX y := by
     have e : Chn.wgtL (Chn.lastV [y]) = Chn.wgtX y := by
      unfold Chn.lastV
      rw [if_pos hsok]
      show (if y.gone then 0 else Chn.wgtX y) = _
      rw [hyg]; rfl
     have hw : Chn.wgtX y ≠ 0 := by
      unfold Chn.wgtX
      cases y.num <;> simp <;> omega
     unfold livesN
     rw [e, if_neg hw]
    have hw : 1 ≤ Chn.wgtX y := by
     unfold Chn.wgtX
     cases y.num <;> simp
    rw [hl]
    simp only [List.length_nil]
    split <;> omega
   | cons z W =>
    simp only [List.length_cons]
    split <;> omega
  ·rename_i hcut
   rw [if_neg hcut] at hlv
   rw [hall _ habove]
   omega
 ·have ho : Chn.oldV vs f = 0 := by unfold Chn.oldV; rw [if_neg fun q => h1 q.2]
  rw [sweep_suffix h] at hlv ⊢
  rw [ho, List.drop_zero] at hlv ⊢
  rw [hall _ fun y hy => by have := (hb y hy).1; omega]
  omega
theorem few_all (hok : OkL L) (hf : 0 ≤ f) : verL (swG f L) ≤ cntL (swG f L) + 2 * cntN (fun y => decide (f < y.seq)) (swG f L) := by
 induction L with
 | nil => exact Int.le_refl _
 | cons y L ih =>
  have h1 := ih fun x hx => hok x (by simp [hx])
  rw [sw_cons]
  split
  ·rw [List.nil_append]; exact h1
  ·rename_i hne
   have h2 := few_one (k := y.1) (hok y (by simp)).1 hf hne
   unfold verL cntL cntN at h1 ⊢
   rw [List.singleton_append, G.sum_cons, G.sum_cons, G.sum_cons]
   show ((Chn.sweepV y.2 f).length : Int) + _ ≤ (min (livesN y.1 (Chn.sweepV y.2 f) : Int) 1 + _) + 2 * (((Chn.sweepV y.2 f).countP fun y => decide (f < y.seq) : Nat) + _)
   omega
theorem above_le {W : List Nat} (hsq : SeqL L W.length) (hc : ∀ (i w : Nat), W[i]? = some w → cntN (fun y => decide (y.seq = ((i + 1 : Nat) : Int))) L ≤ (w : Int)) : ∀ K, K ≤ W.length → cntN (fun y => decide (((W.length - K : Nat) : Int) < y.seq)) L ≤ ((W.drop (W.length - K)).sum : Int)
 | 0, _ => by
  rw [cnt_zero fun x hx y hy => decide_eq_false (by have := hsq x hx y hy; simp; omega)]
  simp
 | K + 1, hK => by
  have ih := above_le hsq hc K (by omega)
  obtain ⟨w, hw⟩ : ∃ w, W[W.length - (K + 1)]? = some w := ⟨_, List.getElem?_eq_getElem (by omega)⟩
  have h1 := hc _ w hw
  have e1 : W.length - (K + 1) + 1 = W.length - K := by omega
  rw [e1] at h1
  have hd : W.drop (W.length - (K + 1)) = w :: W.drop (W.length - K) := by
   obtain ⟨hl, rfl⟩ := List.getElem?_eq_some_iff.1 hw
   rw [List.drop_eq_getElem_cons hl, e1]
  have e2 : ((W.length - (K + 1) : Nat) : Int) = ((W.length - K : Nat) : Int) - 1 := by omega
  rw [hd, e2, cnt_above, List.sum_cons]
  omega
theorem com_ne (h : NeL L) (hs : G.Srt L) : NeL (comL n L ws) := by
 induction ws generalizing L with
 | nil => exact h
 | cons w ws ih =>
  refine ih (L := comStep n L w) (fun x hx => ?_) (lay_sort hs)
  rcases mem_lay hs hx with q | rfl
  ·exact h x q
  ·simp
theorem com_len {c : Nat} (h : ∀ x ∈ L, x.2.length ≤ c) (hs : G.Srt L) (hw : ws.Pairwise fun a b => ltT a.key b.key) : ∀ x ∈ comL n L ws, x.2.length ≤ c + 1 := by
 
 have key : ∀ (ws : List Wt) (L : RL), G.Srt L → (ws.Pairwise fun a b => ltT a.key b.key) → (∀ x ∈ L, x.2.length ≤ c + 1) → (∀ w ∈ ws, (hasG w.key L).length ≤ c) → ∀ x ∈ comL n L ws, x.2.length ≤ c + 1 := by
  intro ws
  induction ws with
  | nil => intro L _ _ h _; exact h
  | cons w ws ih =>
   intro L hs hp h1 h2
   obtain ⟨p1, p2⟩ := List.pairwise_cons.1 hp
   refine ih (comStep n L w) (lay_sort hs) p2 (fun x hx => ?_) fun v hv => ?_
   ·rcases mem_lay hs hx with q | rfl
    ·exact h1 x q
    ·have := h2 w (by simp)
     show (hasG w.key L ++ [w.ver n]).length ≤ c + 1
     simp; omega
   ·rw [has_lay hs, if_neg (ltT_ne (p1 v hv)).symm]
    exact h2 v (by simp [hv])
 refine key ws L hs hw (fun x hx => Nat.le_succ_of_le (h x hx)) fun w _ => ?_
 unfold hasG
 cases hq : G.get w.key L with
 | none => simp
 | some vs => exact h _ (G.get_mem hs hq)
end
end Go.Proofs.Ytnlmnejellipdaa
