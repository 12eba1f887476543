/-
  Own work. PROVED HERE: RoomFew: whatever setting and calls, the law returns true (behind a sweep a room has few versions, and from then on as many more as are written). No condition.
-/
import Derived.Test.YtnlmnejellipdaaMD
namespace Go.Proofs.Ytnlmnejellipdaa
open Go Go.ChangeShapes Go.WideShapes Go.ChangeAt Go.RowKit X
set_option maxRecDepth 100000
attribute [local irreducible] X.Go' X.GoO X.GoR X.GoG X.GoC X.GoF X.GoFV X.GoFG X.Ex X.GoD X.GoDV X.GoDG
set_option linter.unusedVariables false
set_option linter.unusedSimpArgs false
section
variable {σ σ' : Nat → Tag} {t : Tag} {m m' : Mem} {v : Value} {xs : List Value} {b r c : Nat} {vl : Value} {rs qt ms begin seq : Int} {st : List Int} {L : RL}
theorem GrR.tg (h : GrR σ σ' m m') (ht : rmT t = false) (hg : Tg σ t m v xs) : Tg σ' t m' v xs := by
 obtain ⟨F, h1, h2⟩ := hg
 exact ⟨F, h1.fr h.fm fun j hj q => (by rw [h2 j hj, ht] at q; cases q), fun j hj => by rw [h.out j (h1.lt j hj) (by rw [h2 j hj]; exact ht)]; exact h2 j hj⟩
theorem RoomB.cho (h : RoomB b σ m r vl rs qt ms begin seq st L c) (hc : Ch (.other 20) σ σ' m m') : RoomB b σ' m' r vl rs qt ms begin seq st L c := by
 obtain ⟨⟨rp, tp, vc, vf, es, k, vals, cs, fr, h⟩, h2, h3⟩ := h
 exact ⟨⟨rp, tp, vc, vf, es, k, vals, cs, fr, ⟨⟨hc.fm.get h.mem.lt (by rw [h.mem.tag]; simp) h.mem.get, by rw [hc.sig r h.mem.lt]; exact h.mem.tag, Nat.lt_of_lt_of_le h.mem.lt hc.next, h.mem.ring.ch hc (by simp), h.mem.tree.cho hc, h.mem.chn.ch hc (by simp), h.mem.fre.ch hc (by simp), h.mem.cs.ch hc (by simp)⟩, h.place, h.rel, h.ok, h.kc, h.csc⟩⟩, fun j hj => by rw [hc.sig j (Nat.lt_of_lt_of_le hj h3)]; exact h2 j hj, Nat.le_trans h3 hc.next⟩
end
structure FewS (b q0 : Nat) (srow : List Value) (σ : Nat → Tag) (m : Mem) (r : Nat) (vl : Value) (rs qt ms : Int) (L : RL) (W : List Nat) (st : List Int) (at_ : Int) (vw : Value) (i : Nat) : Prop where
 room : RoomB b σ m r vl rs qt ms 0 (W.length : Int) st L (16 * i)
 small : Rng.Small rs 0 (W.length : Int) st
 ne : NeL L
 sq : SeqL L (W.length : Int)
 len : ∀ x ∈ L, x.2.length ≤ i
 wl : W.length ≤ i
 w16 : ∀ w ∈ W, w ≤ 16
 at0 : 0 ≤ at_ ∧ at_ ≤ 256 * (i : Int)
 last : st.getLast?.getD 0 ≤ at_
 cnt : ∀ (j w : Nat), W[j]? = some w → cntN (fun y => decide (y.seq = ((j + 1 : Nat) : Int))) L ≤ (w : Int)
 own : Tg σ (.other 20) m vw (W.map nv)
 s : m.get q0 = some { cells := srow, rw := true, spare := none, kin := [] }
 sno : σ q0 = .no
 slt : q0 < m.next
section
variable {b q0 r i : Nat} {srow : List Value} {σ σ' : Nat → Tag} {m m' : Mem} {vl vw : Value} {rs qt ms at_ : Int} {L : RL} {W : List Nat} {st : List Int}
theorem RoomB.le' {c c' : Nat} {begin seq : Int} (h : RoomB b σ m r vl rs qt ms begin seq st L c) (hc : c ≤ c') : RoomB b σ m r vl rs qt ms begin seq st L c' := ⟨h.p.le hc, h.low, h.le⟩
theorem RoomB.nx {c : Nat} {begin seq : Int} (h : RoomB b σ m r vl rs qt ms begin seq st L c) (f : Nx m m') : RoomB b σ m' r vl rs qt ms begin seq st L c := ⟨h.p.nx f, h.low, Nat.le_trans h.le f.next⟩
theorem FewS.nx (h : FewS b q0 srow σ m r vl rs qt ms L W st at_ vw i) (f : Nx m m') : FewS b q0 srow σ m' r vl rs qt ms L W st at_ vw i :=
 ⟨h.room.nx f, h.small, h.ne, h.sq, h.len, h.wl, h.w16, h.at0, h.last, h.cnt, h.own.nx f, f.get h.slt (fun h => h) h.s, h.sno, Nat.lt_of_lt_of_le h.slt f.next⟩
theorem FewS.step (h : FewS b q0 srow σ m r vl rs qt ms L W st at_ vw i) : FewS b q0 srow σ m r vl rs qt ms L W st at_ vw (i + 1) :=
 ⟨h.room.le' (by omega), h.small, h.ne, h.sq, fun x hx => Nat.le_succ_of_le (h.len x hx), Nat.le_succ_of_le h.wl, h.w16, ⟨h.at0.1, by have := h.at0.2; omega⟩, h.last, h.cnt, h.own, h.s, h.sno, h.slt⟩
theorem pushed_last {size t : Int} {xs : List Int} (h : 1 ≤ size) : (Rng.pushed size xs t).getLast?.getD 0 = t := by
 unfold Rng.pushed
 have hl : (xs ++ [t]).length - size.toNat ≤ xs.length := by rw [List.length_append, List.length_singleton]; omega
 rw [List.drop_append_of_le_length hl, List.getLast?_append]
 rfl
theorem pushed_len {size t : Int} {xs : List Int} (h : 1 ≤ size) (hx : (xs.length : Int) ≤ size) : ((Rng.pushed size xs t).length : Int) ≤ size ∧ (Rng.pushed size xs t).length ≤ xs.length + 1 := by
 unfold Rng.pushed
 rw [List.length_drop, List.length_append, List.length_singleton]
 omega
theorem conv_u8 {m : Mem} {n : Int} : convE Try.prog 5 31 m (.int .u8 n) = some (.val (U (IntKind.u64.wrap n)) m) := by kernel_rfl
theorem FewS.com {m5 : Mem} {σ5 : Nat → Tag} {ws : List Wt} {t : Int} (h : FewS b q0 srow σ m r vl rs qt ms L W st at_ vw i) (hi : i < 120) (hb : RoomB b σ5 m5 r vl rs qt ms 0 ((W.length : Int) + 1) (Rng.pushed rs st t) (comL ((W.length : Int) + 1) L ws) (16 * i + ws.length)) (g : GrR σ σ5 m m5) (hm : mayW ws = true) (ht : at_ < t) (ht2 : t ≤ at_ + 256) :
  ∃ mA m6 σ6 v6, m5.push { cells := [nv ws.length], rw := true, spare := none, kin := [] } = mA ∧ appendE mA 1 8 [I 0] vw (.slice (some ⟨m5.next, 0, none⟩) 1 1) = some (.val v6 m6) ∧ FewS b q0 srow σ6 m6 r vl rs qt ms (comL ((W.length : Int) + 1) L ws) (W ++ [ws.length]) (Rng.pushed rs st t) t v6 (i + 1) ∧ verL (comL ((W.length : Int) + 1) L ws) = verL L + ws.length ∧ Fm (b ≤ ·) m m6 ∧ Fm (fun j => σ5 j = .other 20) m5 m6 := by
 obtain ⟨hok, hpw, hl1, hl16⟩ := mayW_ok hm
 have hs := h.room.p.sort.1
 obtain ⟨mA, hA⟩ : ∃ mA, m5.push { cells := [nv ws.length], rw := true, spare := none, kin := [] } = mA := ⟨_, rfl⟩
 have fA : Nx m5 mA := hA ▸ .push
 have kA : OwnX [m5.next] mA (.slice (some ⟨m5.next, 0, none⟩) 1 1) [nv ws.length] := hA ▸ own_one
 obtain ⟨Fw, o1, o2⟩ := (g.tg rfl h.own).nx fA
 have hwl := h.wl
 obtain ⟨v6, m6, F6, a6, b6, f6, s6, n6⟩ := o1.append (bytes := 8) (zero := I 0) (ys := [nv ws.length]) kA.rd (by simp; omega) (by omega)
 obtain ⟨σ6, k1, k2⟩ := tag_of (σ := σ5) (t := .other 20) o2 b6 f6 n6 o1.lt
 have eW : W.map nv ++ [nv ws.length] = (W ++ [ws.length]).map nv := by simp
 rw [eW] at k1
 have hb6 := (hb.nx fA).cho k2
 obtain ⟨s1, s2, s3, s4, s5, s6', s7⟩ := h.small
 have hpl := pushed_len (t := t) (xs := st) s1 s6'
 have hWl : ((W ++ [ws.length]).length : Int) = (W.length : Int) + 1 := by simp
 have hms : (W.length : Int) + 1 ≤ 1073741824 := by omega
 have g0 := g.fm.get h.slt (by rw [h.sno]; simp [rmT]) h.s
 have l5 : q0 < m5.next := Nat.lt_of_lt_of_le h.slt g.next
 have n5 : σ5 q0 = .no := by rw [g.out q0 h.slt (by rw [h.sno]; rfl)]; exact h.sno
 have gA := fA.get l5 (fun h => h) g0
 have lA : q0 < mA.next := Nat.lt_of_lt_of_le l5 fA.next
 refine ⟨mA, m6, σ6, v6, hA, a6, ⟨by rw [hWl]; exact hb6.le' (by omega), by rw [hWl]; exact ⟨s1, s2, s3, by omega, by omega, hpl.1, by omega⟩, com_ne h.ne hs, by rw [hWl]; exact seq_com (seq_mono h.sq (by omega)) hs, com_len h.len hs hpw, by simp; omega, fun w hw => ?_, ⟨by have := h.at0.1; omega, by have := h.at0.2; omega⟩, by rw [pushed_last s1]; omega, fun j w hj => ?_, k1, k2.fm.get lA (by rw [n5]; simp) gA, by rw [k2.sig q0 lA]; exact n5, Nat.lt_of_lt_of_le lA k2.next⟩, ver_com hs, ?_, (fA.mono fun _ _ h => h.elim).comp k2.fm fun _ _ h => h⟩
 ·rcases List.mem_append.1 hw with hw | hw
  ·exact h.w16 w hw
  ·have : w = ws.length := by simpa using hw
   omega
 ·rw [seqcnt_com hs]
  by_cases hj2 : j < W.length
  ·rw [List.getElem?_append_left hj2] at hj
   rw [if_neg (by omega)]
   have := h.cnt j w hj
   omega
  ·have hje : j = W.length := by
    have := (List.getElem?_eq_some_iff.1 hj).1
    rw [List.length_append, List.length_singleton] at this
    omega
   subst hje
   rw [List.getElem?_append_right (Nat.le_refl _), Nat.sub_self] at hj
   have hw : ws.length = w := by simpa using hj
   rw [if_pos (by omega), cnt_zero fun x hx y hy => decide_eq_false (by have := h.sq x hx y hy; omega)]
   omega
 ·have hf : Fm (b ≤ ·) m m5 := (h.room.gr g hb.p).2
  refine (hf.comp fA fun _ _ h => h.elim).comp f6 fun j hj hjF => ?_
  refine Nat.le_of_not_lt fun q => ?_
  have h1 := o2 j hjF
  rw [hb.low j q] at h1
  cases h1
theorem FewS.swp {m5 : Mem} {σ5 : Nat → Tag} (h : FewS b q0 srow σ m r vl rs qt ms L W st at_ vw i) (hb : RoomB b σ5 m5 r vl rs qt ms 0 (W.length : Int) st (swG (Rng.floorOf rs 0 (W.length : Int)) L) (16 * i)) (g : GrR σ σ5 m m5) :
  FewS b q0 srow σ5 m5 r vl rs qt ms (swG (Rng.floorOf rs 0 (W.length : Int)) L) W st at_ vw i ∧ Fm (b ≤ ·) m m5 := by
 have hok := h.room.p.ok
 exact ⟨⟨hb, h.small, sw_ne hok, sw_seq hok h.sq, sw_len hok h.len, h.wl, h.w16, h.at0, h.last, fun j w hj => Int.le_trans (sw_cnt hok) (h.cnt j w hj), g.tg rfl h.own, g.fm.get h.slt (by rw [h.sno]; simp [rmT]) h.s, by rw [g.out q0 h.slt (by rw [h.sno]; rfl)]; exact h.sno, Nat.lt_of_lt_of_le h.slt g.next⟩, (h.room.gr g hb.p).2⟩
theorem FewS.few {K : Nat} (h : FewS b q0 srow σ m r vl rs qt ms L W st at_ vw i) (hok : OkL L) (hK : K ≤ W.length) (hf : Rng.floorOf rs 0 (W.length : Int) = ((W.length - K : Nat) : Int)) :
  verL (swG (Rng.floorOf rs 0 (W.length : Int)) L) ≤ cntL (swG (Rng.floorOf rs 0 (W.length : Int)) L) + 2 * ((W.drop (W.length - K)).sum : Int) := by
 have h1 := few_all (f := Rng.floorOf rs 0 (W.length : Int)) hok (by rw [hf]; omega)
 have h2 := above_le (L := swG (Rng.floorOf rs 0 (W.length : Int)) L) (sw_seq hok h.sq) (fun j w hj => Int.le_trans (sw_cnt hok) (h.cnt j w hj)) K hK
 rw [← hf] at h2
 omega
end
theorem sum_le : ∀ {W : List Nat}, (∀ w ∈ W, w ≤ 16) → W.sum ≤ W.length * 16
 | [], _ => by simp
 | w :: W, h => by
  have h1 := h w (by simp)
  have h2 := sum_le (W := W) fun x hx => h x (by simp [hx])
  rw [List.sum_cons, List.length_cons, Nat.add_mul]
  omega
set_option maxHeartbeats 1000000 in
theorem roomFew_run {b : Nat} {m : Mem} {l lv : Value} {xs : List Ak} {ls : List Int} {rs qt ms : Int} (h : RdA b m l xs) (hl : RdL b m lv ls) (hb : b ≤ m.next) : Wc 3 [.agg ⟨row4 lv rs qt ms⟩, l] m fun v m' => v = .bool true := by
 refine call_go (F := _) rfl rfl fun Q hQ => ?_
 obtain ⟨m1, hm1⟩ : ∃ m1, m.push { cells := row4 lv rs qt ms, rw := true, spare := none, kin := [] } = m1 := ⟨_, rfl⟩
 have g1 : m1.get m.next = some { cells := row4 lv rs qt ms, rw := true, spare := none, kin := [] } := by rw [← hm1, push_self]
 have f1 : Nx m m1 := hm1 ▸ .push
 have n1 : m1.next = m.next + 1 := by rw [← hm1]; simp
 have l4 : ldA m1 4 (.pointer (some ⟨m.next, 0, none⟩)) = some (.val (.agg ⟨row4 lv rs qt ms⟩) m1) := by simp [ldA, xload, g1]
 have hl1 := hl.fr f1 hb (fun _ h => h.elim)
 have hb1 : b ≤ m1.next := by omega
 obtain ⟨pl, cl, hlv⟩ := rdl_slice hl
 obtain ⟨p, c, hls⟩ := acts_slice h
 subst hlv hls
 simp only [symA, symB, X.put, X.look, Arg.ev, keepOf, restrict, evs, initEnv, Nat.reduceEqDiff, ↓reduceIte, reduceCtorEq, eq_self, hm1]
 by_cases h60 : (60 : Int) < (ls.length : Int)
 ·simp only [symA, symB, X.put, X.look, Arg.ev, keepOf, restrict, Nat.reduceEqDiff, ↓reduceIte, goInt, eq_self, goR_call (awake_call _), g1, h60]
  exact hQ _ _ _ rfl rfl
 cases hr : rightR ls rs qt ms with
 | false =>
  obtain ⟨m2, a1, a2⟩ := rnew_bad hl1 hb1 hr
  simp only [symA, symB, X.put, X.look, Arg.ev, keepOf, restrict, evs, Nat.reduceEqDiff, ↓reduceIte, goInt, eq_self, Int.reduceEq, ne_eq, goR_call (awake_call _), g1, h60, l4, goR_call a1]
  exact hQ _ _ _ rfl rfl
 | true =>
 obtain ⟨m2, σ, r, vl, a1, a2, a3, a4, a5, a6⟩ := rnew_ok hl1 hb1 (by omega) hr
 have hfacts : 1 ≤ rs ∧ rs ≤ 16 ∧ 1 ≤ ms ∧ ms ≤ 1073741824 := by
  unfold rightR at hr
  simp only [Bool.and_eq_true, decide_eq_true_eq] at hr
  omega
 obtain ⟨r1, r2, r3, r4⟩ := hfacts
 obtain ⟨m3, hm3⟩ : ∃ m3, m2.push { cells := [], rw := true, spare := none, kin := [] } = m3 := ⟨_, rfl⟩
 have f3 : Nx m2 m3 := hm3 ▸ .push
 have B3 := bs73 (m := m2)
 rw [hm3] at B3
 have x3 := a3.next
 have hf3 : Nx m m3 := (f1.comp a3 fun _ _ h => h).comp f3 fun _ _ h => h
 have up : ∀ {x y : Mem}, Nx x y → Fm (b ≤ ·) x y := fun f => f.mono fun _ _ h => h.elim
 have S0 : FewS b m.next (row4 (.slice pl ls.length cl) rs qt ms) σ m3 r vl rs qt ms [] [] [] 0 (.slice (some ⟨m2.next, 0, none⟩) 0 0) 0 :=
  ⟨a2.nx f3, a5, fun x hx => by simp at hx, fun x hx => by simp at hx, by simp, by simp, by simp, by simp, by simp, by simp, ⟨[], own_empty, by simp⟩, f3.get (by omega) (fun h => h) (a3.get (by omega) (fun h => h) g1), a6 _ (by omega), by have := f3.next; omega⟩
 simp only [symA, symB, X.put, X.look, Arg.ev, keepOf, restrict, evs, Nat.reduceEqDiff, ↓reduceIte, goInt, eq_self, ne_eq, goR_call (awake_call _), g1, h60, l4, goR_call a1, B3]
 refine loop_go (fun j e m' => ∃ (i : Nat) (σ : Nat → Tag) (L : RL) (W : List Nat) (st : List Int) (at_ kept since : Int) (vw : Value), i ≤ xs.length ∧ i ≤ 120 ∧ j = xs.length - i ∧ FewS b m.next (row4 (.slice pl ls.length cl) rs qt ms) σ m' r vl rs qt ms L W st at_ vw i ∧ verL L ≤ kept + since ∧ 0 ≤ kept ∧ kept ≤ 10000000 ∧ 0 ≤ since ∧ since ≤ 16 * (i : Int) ∧ Fm (b ≤ ·) m m' ∧
  e = [(1, .slice p xs.length c), (2, Pt m.next), (5, Pt r), (7, U at_), (8, vw), (9, I kept), (10, I since), (11, I (i : Int))]) xs.length ⟨0, σ, [], [], [], 0, 0, 0, _, by omega, by omega, rfl, S0, by simp [verL, G.sum], by omega, by omega, by omega, by omega, up hf3, rfl⟩ ?_
 rintro j e m4 N' B' hN hB ⟨i, σ4, L, W, st, at_, kept, since, vw, hi, h120, rfl, hS, hv, hk0, hk1, hs0, hs1, hf4, rfl⟩
 by_cases hcont : ¬ (i < xs.length ∧ i < 120)
 ·have hh : (¬ (i : Int) < (xs.length : Int)) ∨ ((i : Int) < (xs.length : Int) ∧ ¬ (i : Int) < 120) := by omega
  rcases hh with h1 | ⟨h1, h2⟩
  case' inl => have h2 : True := trivial
  all_goals
   simp only [symA, symB, wantedX, X.put, X.look, Arg.ev, keepOf, restrict, Nat.reduceEqDiff, ↓reduceIte, goInt, eq_self, undef, h1, h2]
   refine hB _ _ _ ?_
   simp only [symA, symB, X.put, X.look, Arg.ev, keepOf, restrict, ↓reduceIte, eq_self]
   exact hQ _ _ _ rfl rfl
 obtain ⟨hlt, h3⟩ : i < xs.length ∧ i < 120 := Classical.not_not.1 hcont
 have hlt' : (i : Int) < (xs.length : Int) := by omega
 have h3' : (i : Int) < 120 := by omega
 obtain ⟨x, hx⟩ : ∃ x, xs[i]? = some x := ⟨_, List.getElem?_eq_getElem hlt⟩
 have w1 : IntKind.i64.wrap ((i : Int) + 1) = ((i + 1 : Nat) : Int) := by rw [wrap_i64 (by omega) (by omega)]; omega
 obtain ⟨a, c', wv, hv', l5, hw, hwf, hby0, hby1⟩ := acts_at (h.fr hf4 hb (fun _ h => h)) hx
 cases hv'
 obtain ⟨pw, cw, hwv⟩ := rdw_slice hw
 subst hwv
 
 obtain ⟨mP, hP⟩ : ∃ mP, m4.push { cells := [I 0, .slice none 0 0, .int .u8 0, I 0, .string .empty], rw := true, spare := none, kin := [] } = mP := ⟨_, rfl⟩
 obtain ⟨m5, t1, t2, t3, t4⟩ := new_store (m := m4) (z := [I 0, .slice none 0 0, .int .u8 0, I 0, .string .empty]) (row := [I x.kind, .slice pw x.ws.length cw, .int .u8 x.by_, I x.seq, .string x.key]) (n := 5) rfl rfl (by omega)
 rw [hP] at t1
 have hS5 := hS.nx t3
 have hf5 : Fm (b ≤ ·) m m5 := hf4.comp (up t3) fun _ _ h => h
 have hw5 := hw.fr t3 (Nat.le_trans hb hf4.next) (fun _ h => h.elim)
 have hfar := far_spec hw5
 have hvb := ver_bound hS.room.p.ok
 have hLl := hS.room.p.sort.2
 have hfin := hN [(1, .slice (some a) xs.length c), (2, Pt m.next), (5, Pt r), (7, U at_), (8, vw), (9, I kept), (10, I since), (11, I ((i + 1 : Nat) : Int))]
 have hcq : m4.next < m5.next := by rw [t4]; omega
 have hfq : σ4 m4.next = .no := hS.room.p.fresh _ (Nat.le_refl _)
 cases hfw : farW x.ws with
 | true =>
  rw [hfw] at hfar
  simp only [symA, symB, wantedX, X.put, X.look, Arg.ev, keepOf, restrict, evs, Nat.reduceEqDiff, ↓reduceIte, goInt, eq_self, hlt', hlt, h3', l5, hP, t1, t2, goR_call hfar, w1]
  exact hfin m5 (xs.length - (i + 1)) (by omega) ⟨i + 1, σ4, L, W, st, at_, kept, since, vw, by omega, by omega, rfl, hS5.step, hv, hk0, hk1, hs0, by omega, hf5, rfl⟩
 | false =>
 rw [hfw] at hfar
 have hwl : x.ws.length ≤ 30 := by
  unfold farW at hfw
  simp only [Bool.or_eq_false_iff, decide_eq_false_iff_not] at hfw
  omega
 have hvers5 := hS5.room.p.vers
 have wks : IntKind.i64.wrap (kept + since) = kept + since := wr (by omega) (by omega)
 have hnv : ¬ kept + since < verL L := by omega
 by_cases hk : x.kind = 1
 ·
  simp only [hk] at t1 t2 l5
  have hk2 : ¬ (1 : Int) = 2 := by omega
  obtain ⟨ha0, ha1⟩ := hS.at0
  have u1 : IntKind.u64.wrap (at_ + 1) = at_ + 1 := wrap_u64 (by omega) (by omega)
  have u2 : IntKind.u64.wrap x.by_ = x.by_ := wrap_u64 (by omega) (by omega)
  have u3 : IntKind.u64.wrap (at_ + 1 + x.by_) = at_ + 1 + x.by_ := wrap_u64 (by omega) (by omega)
  have hb5 : b ≤ m5.next := Nat.le_trans hb hf5.next
  have hlen700 : ∀ y ∈ L, y.2.length ≤ 700 := fun y hy => by have := hS.len y hy; omega
  have hw5' : RdW b m5 (.slice pw x.ws.length cw) x.ws := hw5
  obtain ⟨m6, c1, c2⟩ := commit_spec (t := at_ + 1 + x.by_) hS5.room hw5' hwf (by omega) hS.small r4 hS.sq hlen700 (by omega)
  obtain ⟨⟨n', e'⟩, hce⟩ : ∃ q, commitE L x.ws (at_ + 1 + x.by_) (W.length : Int) ms qt st = q := ⟨_, rfl⟩
  rw [hce] at c1 c2
  rcases c2 with ⟨c3, c4⟩ | ⟨c3, c4, c5, c6, σ6, c7, c8⟩
  ·have c3' : ¬ e' = 0 := c3
   have g6 := c4.get hcq (fun h => h) t2
   have hS6 := hS5.nx c4
   have hvers6 := hS6.room.p.vers
   simp only [symA, symB, wantedX, X.put, X.look, Arg.ev, keepOf, restrict, evs, Nat.reduceEqDiff, ↓reduceIte, goInt, eq_self, hlt', hlt, h3', l5, hP, t1, t2, goR_call hfar, u1, conv_u8, u2, u3, goR_call c1, c3', g6, hk2, goR_call hvers6, wks, hnv, w1]
   exact hfin m6 (xs.length - (i + 1)) (by omega) ⟨i + 1, σ4, L, W, st, at_, kept, since, vw, by omega, by omega, rfl, hS6.step, hv, hk0, hk1, hs0, by omega, hf5.comp (up c4) fun _ _ h => h, rfl⟩
  ·have c3' : e' = 0 := c3
   subst c3'
   obtain ⟨mA, m7, σ7, v7, d1, d2, d3, d4, d5, d6⟩ := hS5.com h3 c7 c8 c4 (by omega) (by omega)
   obtain ⟨_, _, _, hl16⟩ := mayW_ok c4
   have g6 := c8.fm.get hcq (by rw [hfq]; simp [rmT]) t2
   have n6 : m4.next < m6.next := Nat.lt_of_lt_of_le hcq c8.next
   have B7 := bone73 (m := m6) (x := (x.ws.length : Int))
   rw [d1] at B7
   have hq6 : σ6 m4.next = .no := by rw [c8.out _ hcq (by rw [hfq]; rfl)]; exact hfq
   have g7 := d6.get n6 (by rw [hq6]; simp) g6
   have hvers7 := d3.room.p.vers
   have ws1 : IntKind.i64.wrap (since + (x.ws.length : Int)) = since + (x.ws.length : Int) := wr (by omega) (by omega)
   have wks' : IntKind.i64.wrap (kept + (since + (x.ws.length : Int))) = kept + (since + (x.ws.length : Int)) := wr (by omega) (by omega)
   have hnv' : ¬ kept + (since + (x.ws.length : Int)) < verL (comL ((W.length : Int) + 1) L x.ws) := by omega
   simp only [symA, symB, wantedX, X.put, X.look, Arg.ev, keepOf, restrict, evs, noTup, Nat.reduceEqDiff, ↓reduceIte, goInt, eq_self, hlt', hlt, h3', l5, hP, t1, t2, goR_call hfar, u1, conv_u8, u2, u3, goR_call c1, g6, B7, d2, g7, ws1, hk2, goR_call hvers7, wks', hnv', w1]
   exact hN _ m7 (xs.length - (i + 1)) (by omega) ⟨i + 1, σ7, _, _, _, _, kept, since + (x.ws.length : Int), v7, by omega, by omega, rfl, d3, by rw [d4]; omega, hk0, hk1, by omega, by omega, hf5.comp d5 fun _ _ h => h, rfl⟩
 ·by_cases hk2 : x.kind = 2
  ·
   simp only [hk2] at t1 t2 l5
   have hk1' : ¬ (2 : Int) = 1 := by omega
   obtain ⟨m6, σ6, c1, c2, c3⟩ := sweep_spec hS5.room hS.small hS.ne (by omega)
   obtain ⟨hS6, hf6⟩ := hS5.swp c2 c3
   have g6 := c3.fm.get hcq (by rw [hfq]; simp [rmT]) t2
   have hvers6 := hS6.room.p.vers
   have hkeys6 := hS6.room.p.keys
   have hs6 := hS6.s
   have hok5 := hS5.room.p.ok
   obtain ⟨z1, z2, z3, z4, z5, z6, z7⟩ := hS.small
   have hvb6 := ver_bound hS6.room.p.ok
   have hcb6 := cnt_bound hS6.room.p.ok
   have hLl6 := hS6.room.p.sort.2
   obtain ⟨qv, cv, hvw⟩ := hS6.own.slice
   rw [List.length_map] at hvw
   subst hvw
   obtain ⟨V, hV⟩ : ∃ V, verL (swG (Rng.floorOf rs 0 (W.length : Int)) L) = V := ⟨_, rfl⟩
   obtain ⟨C, hC⟩ : ∃ C, cntL (swG (Rng.floorOf rs 0 (W.length : Int)) L) = C := ⟨_, rfl⟩
   rw [hV] at hvers6 hvb6
   rw [hC] at hkeys6 hcb6
   have hWl := hS.wl
   simp only [symA, symB, wantedX, X.put, X.look, Arg.ev, keepOf, restrict, evs, Nat.reduceEqDiff, ↓reduceIte, goInt, eq_self, hlt', hlt, h3', l5, hP, t1, t2, goR_call hfar, hk1', goR_call c1, goR_call hvers6, goR_call hkeys6]
   refine loop_go (fun j e m' => m' = m6 ∧ ∃ k : Nat, k ≤ W.length ∧ (k : Int) ≤ rs - 1 ∧ j = W.length - k ∧ e = [(1, .slice (some a) xs.length c), (2, Pt m.next), (5, Pt r), (7, U at_), (8, .slice qv W.length cv), (9, I V), (10, I 0), (11, I (i : Int)), (15, I (C + 2 * ((W.drop (W.length - k)).sum : Int))), (16, I ((k + 1 : Nat) : Int))]) W.length ⟨rfl, 0, by omega, by omega, rfl, by simp⟩ ?_
   rintro j e m7 N2 B2 hN2 hB2 ⟨rfl, k, hkW, hkr, rfl, rfl⟩
   have hsum := sum_le (W := W.drop (W.length - k)) fun w hw => hS.w16 w (List.mem_of_mem_drop hw)
   rw [List.length_drop] at hsum
   by_cases hgo : ((k + 1 : Nat) : Int) < rs ∧ k + 1 ≤ W.length
   ·obtain ⟨hg1, hg2⟩ := hgo
    have hg2' : ((k + 1 : Nat) : Int) ≤ (W.length : Int) := by omega
    have y1 : IntKind.i64.wrap ((W.length : Int) - ((k + 1 : Nat) : Int)) = ((W.length - (k + 1) : Nat) : Int) := by rw [wr (by omega) (by omega)]; omega
    obtain ⟨w, hw'⟩ : ∃ w, W[W.length - (k + 1)]? = some w := ⟨_, List.getElem?_eq_getElem (by omega)⟩
    obtain ⟨Fo, fo1, fo2⟩ := hS6.own
    obtain ⟨ao, co, oo, q1, q2, q3⟩ := rd_at fo1.rd (i := W.length - (k + 1)) (x := nv w) (by rw [List.getElem?_map, hw']; rfl)
    rw [List.length_map] at q1
    cases q1
    have hw16 := hS.w16 w (List.mem_of_getElem? hw')
    have y2 : IntKind.i64.wrap (2 * (w : Int)) = 2 * (w : Int) := wr (by omega) (by omega)
    have hd : W.drop (W.length - (k + 1)) = w :: W.drop (W.length - k) := by
     obtain ⟨hl, rfl⟩ := List.getElem?_eq_some_iff.1 hw'
     rw [List.drop_eq_getElem_cons hl, show W.length - (k + 1) + 1 = W.length - k by omega]
    have y3 : IntKind.i64.wrap (C + 2 * ((W.drop (W.length - k)).sum : Int) + 2 * (w : Int)) = C + 2 * ((W.drop (W.length - (k + 1))).sum : Int) := by
     rw [wr (by omega) (by omega), hd, List.sum_cons]; omega
    have y4 : IntKind.i64.wrap (((k + 1 : Nat) : Int) + 1) = ((k + 1 + 1 : Nat) : Int) := by rw [wr (by omega) (by omega)]; omega
    have hlt3 : W.length - (k + 1) < W.length := by omega
    simp only [symA, symB, wantedX, X.put, X.look, Arg.ev, keepOf, restrict, Nat.reduceEqDiff, ↓reduceIte, goInt, eq_self, hs6, hg1, hg2', y1, hlt3, q2, q3, y2, y3, y4]
    exact hN2 _ _ (W.length - (k + 1)) (by omega) ⟨rfl, k + 1, by omega, by omega, rfl, rfl⟩
   ·have hfew := hS5.few (K := k) hok5 hkW (by unfold Rng.floorOf; omega)
    rw [hV, hC] at hfew
    have hV2 : ¬ C + 2 * ((W.drop (W.length - k)).sum : Int) < V := by omega
    have y5 : IntKind.i64.wrap (V + 0) = V := by rw [wr (by omega) (by omega)]; omega
    have hV3 : ¬ V < V := by omega
    have hgg : (¬ ((k + 1 : Nat) : Int) < rs) ∨ (((k + 1 : Nat) : Int) < rs ∧ ¬ ((k + 1 : Nat) : Int) ≤ (W.length : Int)) := by omega
    have hend := hN [(1, .slice (some a) xs.length c), (2, Pt m.next), (5, Pt r), (7, U at_), (8, .slice qv W.length cv), (9, I V), (10, I 0), (11, I ((i + 1 : Nat) : Int))] m7 (xs.length - (i + 1)) (by omega) ⟨i + 1, σ6, _, W, st, at_, V, 0, _, by omega, by omega, rfl, hS6.step, by rw [hV]; omega, by omega, by omega, by omega, by omega, hf5.comp hf6 fun _ _ h => h, rfl⟩
    rcases hgg with y6 | ⟨y6, y7⟩
    case' inl => have y7 : True := trivial
    all_goals
     simp only [symA, symB, wantedX, X.put, X.look, Arg.ev, keepOf, restrict, Nat.reduceEqDiff, ↓reduceIte, goInt, eq_self, undef, hs6, y6, y7]
     refine hB2 _ _ _ ?_
     simp only [symA, symB, X.put, X.look, Arg.ev, keepOf, restrict, evs, Nat.reduceEqDiff, ↓reduceIte, eq_self, hV2, goR_call hvers6, y5, hV3, w1]
     exact hend
  ·simp only [symA, symB, wantedX, X.put, X.look, Arg.ev, keepOf, restrict, evs, Nat.reduceEqDiff, ↓reduceIte, goInt, eq_self, hlt', hlt, h3', l5, hP, t1, t2, goR_call hfar, hk, hk2, goR_call hvers5, wks, hnv, w1]
   exact hfin m5 (xs.length - (i + 1)) (by omega) ⟨i + 1, σ4, L, W, st, at_, kept, since, vw, by omega, by omega, rfl, hS5.step, hv, hk0, hk1, hs0, by omega, hf5, rfl⟩
theorem abs_room {H : Type} (d : DataW H) (m : Mem) (h : wfD Try.prog d 24) : ∃ (ls : List Int) (lv : Value) (rs qt ms : Int), (absD Try.prog d 24 m).1 = row4 lv rs qt ms ∧ Nx m (absD Try.prog d 24 m).2 ∧ RdL (absD Try.prog d 24 m).2.next (absD Try.prog d 24 m).2 lv ls := by
 obtain ⟨xs, rfl, h⟩ := wf_struct Try.underlying24 h
 change wfEach Try.prog xs [22, 3, 3, 3] at h
 obtain ⟨a0, r, rfl, k0, h⟩ := wf_more h
 obtain ⟨a1, r, rfl, k1, h⟩ := wf_more h
 obtain ⟨a2, r, rfl, k2, h⟩ := wf_more h
 obtain ⟨a3, rfl, k3⟩ := wf_one h
 obtain ⟨n1, rfl, _⟩ := wf_int Try.underlying3 k1
 obtain ⟨n2, rfl, _⟩ := wf_int Try.underlying3 k2
 obtain ⟨n3, rfl, _⟩ := wf_int Try.underlying3 k3
 obtain ⟨ls, lv, e1, _, _, e2, e3⟩ := abs_slice_ints (m := m) Try.underlying22 Try.underlying31 k0
 have e : absD Try.prog (.agg [a0, .lit (.int .i64 n1), .lit (.int .i64 n2), .lit (.int .i64 n3)]) 24 m = ((absD Try.prog a0 22 m).1 ++ [I n1, I n2, I n3], (absD Try.prog a0 22 m).2) := by kernel_rfl
 rw [e, e1]
 exact ⟨ls, lv, n1, n2, n3, rfl, e2, e3⟩
theorem roomFew_args {H : Type} (ds : List (DataW H)) (h : wfEach Try.prog ds Try.f3.params.toList) : ∃ (d0 d1 : DataW H), ds = [d0, d1] ∧ wfD Try.prog d0 24 ∧ wfD Try.prog d1 25 := by
 rw [Try.params3] at h
 obtain ⟨d0, r, rfl, h0, h⟩ := wf_more h
 obtain ⟨d1, rfl, h1⟩ := wf_one h
 exact ⟨d0, d1, rfl, h0, h1⟩
theorem roomFew_lifted (os : Os) (started : os.Started) (H : Type) (enc : TypeId × Value → H) :
  ReturnsInHanded {} Try.checked os 3 .any (Rows.roomFewSpec.pre6 enc Try.prog Try.f3 Rows.roomFewRow.domain false) (Rows.roomFewSpec.post enc Try.prog Try.f3 false true false false) := by
 refine returnsInHanded_of_change (C := Try.checked) own started (by kernel_rfl) Try.func3
  (ChangeSpec.witness6 (enc := enc) (C := Try.checked) false ⟨#[], #[.agg #[.slice none 0 0, .int .i64 0, .int .i64 0, .int .i64 0], .slice none 0 0], []⟩ 8 (by kernel_rfl) (by kernel_rfl) (by kernel_rfl) (by kernel_rfl)) ?_
 intro W base args ds gs before hval0 hW hcnd _
 refine law_contract mixed tabK_is (f := 3) rfl (k := 10) (by rw [← List.all_eq_true]; kernel_rfl) (fun t ht => ?_) laid rfl (by kernel_rfl) rfl ?_ ?_ H enc W base args ds gs before hval0 hW
 ·have : (Try.f3.params.toList.all fun t => Try.prog.readableRec t && decide (t < Try.prog.types.size)) = true := by kernel_rfl
  have := List.all_eq_true.1 this t ht
  simp only [Bool.and_eq_true, decide_eq_true_eq] at this
  exact this
 ·intro H ds hd
  obtain ⟨_, _, rfl, _⟩ := roomFew_args ds hd
  rfl
 ·intro H ds hd
  obtain ⟨d0, d1, rfl, h0, h1⟩ := roomFew_args ds hd
  obtain ⟨ls, lv, rs, qt, ms, a0, b0, c0⟩ := abs_room d0 Mem.empty h0
  obtain ⟨M0, hM0⟩ : ∃ M, (absD Try.prog d0 24 Mem.empty).2 = M := ⟨_, rfl⟩
  rw [hM0] at b0 c0
  obtain ⟨xs, v1, a1, b1, c1⟩ := abs_acts (m := M0) h1
  obtain ⟨M1, hM1⟩ : ∃ M, (absD Try.prog d1 25 M0).2 = M := ⟨_, rfl⟩
  rw [hM1] at b1 c1
  have ha : absArgs Try.prog [d0, d1] Try.f3.params.toList Mem.empty = ([argVal Try.prog 24 (absD Try.prog d0 24 Mem.empty).1, argVal Try.prog 25 (absD Try.prog d1 25 (absD Try.prog d0 24 Mem.empty).2).1], (absD Try.prog d1 25 (absD Try.prog d0 24 Mem.empty).2).2) := by kernel_rfl
  rw [ha, hM0, hM1, a0, a1]
  have q24 : ∀ a b c d, argVal Try.prog 24 [a, b, c, d] = .agg ⟨[a, b, c, d]⟩ := fun a b c d => by kernel_rfl
  have q25 : ∀ v, argVal Try.prog 25 [v] = v := fun v => by kernel_rfl
  rw [q24, q25]
  have c0' : RdL M1.next M1 lv ls := rd_up' (c0.fr b1 (Nat.le_refl _) fun _ h => h.elim) b1.next
  obtain ⟨v, m', ⟨k, hk⟩, rfl⟩ := roomFew_run (b := M1.next) c1 c0' (Nat.le_refl _)
  exact ⟨k, m', hk⟩
theorem roomFew_holds : Rows.RoomFewSaid :=
 OpenClaim.holds_of_wide 3 Try.f3 rfl rfl rfl rfl rfl rfl rfl ⟨rfl, rfl, rfl, rfl, rfl⟩ rfl rfl rfl rfl rfl (by kernel_rfl) Try.func3 (by kernel_rfl)
  (of_decide_eq_true (by kernel_rfl)) (by unfold Func.isWrapper; first | (rw [if_pos (by decide +kernel)]; kernel_rfl) | (rw [if_neg (by decide +kernel)]; exact ⟨rfl, rfl⟩))
  (fun os started H enc _ => roomFew_lifted os started H enc)
end Go.Proofs.Ytnlmnejellipdaa
