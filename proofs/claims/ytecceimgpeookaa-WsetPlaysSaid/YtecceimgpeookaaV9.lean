/-
  Own work. The document's set of writes: a write, a mark, and back to one.
-/
import Derived.Test.YtecceimgpeookaaV8
namespace Go.Proofs.Ytecceimgpeookaa
open Go X
set_option maxRecDepth 100000
attribute [local irreducible] X.Go' X.GoO X.GoR X.GoG X.GoC X.GoF X.GoFV X.GoFG X.Ex X.GoD X.GoDV X.GoDG
set_option linter.unusedVariables false
set_option linter.unusedSimpArgs false

section
variable {H FM : List Nat} {m m' : Mem} {p : Nat} {vl vm : Value} {vals : List Value} {W : List Wr} {R : List (List Wr)} {k : ByteArray} {w : Wr}
/-- The writes' slice is another one. -/
theorem RefM.setL {F' : List Nat} {vl' : Value} {W' : List Wr} (h : RefM H m p vl vm FM vals W R) (hf : Nx m m') (ho : Own2 5 F' m' vl' (rowsW W')) (hF : ∀ i ∈ F', m.next ≤ i) :
    ∃ m2 H', storeE m' 1 (.pointer (some ⟨p, 0, none⟩)) vl' = some (.skip m2) ∧ RefM H' m2 p vl' vm FM vals W' R ∧ Fm (· ∈ H) m m2 ∧ ∀ i ∈ H', i ∈ H ∨ m.next ≤ i := by
  have hg := hf.get (h.lt p h.pH) (fun h => h) h.get
  obtain ⟨q, c, hv⟩ := own_slice ho (by omega)
  obtain ⟨m2, s1, s2, s3, s4⟩ := fld_store (i := 0) (x := vl') hg (by simp) (by rw [hv]; rfl) (by rw [hv]; rfl)
  have hp := h.lt p h.pH
  have hn := hf.next
  have big : ∀ {v : Value} {W : List Wr}, Sn H p FM m v W → Sn (H ++ F') p FM m2 v W := fun {v W} hs => by
    obtain ⟨F, k1, k2⟩ := (hs.fr hf fun _ _ _ _ h => h).fr s3 fun i hi h1 _ h2 => h1 h2
    exact ⟨F, k1, fun i hi => ⟨List.mem_append.2 (.inl (k2 i hi).1), (k2 i hi).2⟩⟩
  refine ⟨m2, H ++ F', s1, ⟨s2, ⟨F', ho.fr s3 fun i hi (e : i = p) => by have := hF i hi; omega, fun i hi => ⟨by simp [hi], by have := hF i hi; omega, fun q => by have := hF i hi; have := h.lt i (h.mH i q); omega⟩⟩, (h.om.fr hf fun _ _ h => h).fr s3 fun i hi (e : i = p) => h.pM (e ▸ hi), h.vlen, fun j S hS => ?_, h.pM, by simp [h.pH], fun i hi => by simp [h.mH i hi], fun i hi => ?_⟩, (hf.mono fun _ _ h => h.elim).comp s3 fun i _ (e : i = p) => e ▸ h.pH, fun i hi => ?_⟩
  · obtain ⟨u, k1, k2⟩ := h.snaps j S hS
    exact ⟨u, k1, big k2⟩
  · rcases List.mem_append.1 hi with hi | hi
    · have := h.lt i hi; omega
    · have := ho.lt i hi; omega
  · rcases List.mem_append.1 hi with hi | hi
    · exact .inl hi
    · exact .inr (hF i hi)
/-- The marks are others. -/
theorem RefM.setM {F' : List Nat} {vm' : Value} {vals' : List Value} {R' : List (List Wr)} {X : List Nat} (h : RefM H m p vl vm FM vals W R) (hf : Fm (· ∈ FM) m m') (ho : Own2 1 F' m' vm' (vals'.map fun x => [x])) (hF : ∀ i ∈ F', i ∈ FM ∨ m.next ≤ i)
    (hX : ∀ i ∈ X, m.next ≤ i ∧ i < m'.next ∧ i ∉ F') (hl : vals'.length = R'.length) (hs : ∀ (j : Nat) (S : List Wr), R'[j]? = some S → ∃ u, vals'[j]? = some u ∧ (Sn H p FM m u S ∨ ∃ F, Own2 5 F m' u (rowsW S) ∧ ∀ i ∈ F, i ∈ X)) :
    ∃ m2 H', storeE m' 1 (.pointer (some ⟨p, 1, none⟩)) vm' = some (.skip m2) ∧ RefM H' m2 p vl vm' F' vals' W R' ∧ Fm (· ∈ H) m m2 ∧ ∀ i ∈ H', i ∈ H ∨ m.next ≤ i := by
  have hg := hf.get (h.lt p h.pH) h.pM h.get
  obtain ⟨q, c, hv⟩ := own_slice ho (by omega)
  obtain ⟨m2, s1, s2, s3, s4⟩ := fld_store (i := 1) (x := vm') hg (by simp) (by rw [hv]; rfl) (by rw [hv]; rfl)
  have hp := h.lt p h.pH
  have hn := hf.next
  have hp' : p ∉ F' := fun e => (hF p e).elim h.pM fun q => by omega
  have big : ∀ {v : Value} {W : List Wr}, Sn H p FM m v W → Sn (H ++ F' ++ X) p F' m2 v W := fun {v W} hs => by
    obtain ⟨F, k1, k2⟩ := (hs.fr hf fun _ _ _ h1 h2 => h1 h2).fr s3 fun i hi h1 _ h2 => h1 h2
    refine ⟨F, k1, fun i hi => ⟨by simp [(k2 i hi).1], (k2 i hi).2.1, fun q => ?_⟩⟩
    exact (hF i q).elim (k2 i hi).2.2 fun q => by have := h.lt i (k2 i hi).1; omega
  refine ⟨m2, H ++ F' ++ X, s1, ⟨s2, big h.pl, ho.fr s3 fun i hi (e : i = p) => hp' (e ▸ hi), hl, fun j S hS => ?_, hp', by simp [h.pH], fun i hi => by simp [hi], fun i hi => ?_⟩, (hf.mono fun i _ hi => h.mH i hi).comp s3 fun i _ (e : i = p) => e ▸ h.pH, fun i hi => ?_⟩
  · obtain ⟨u, k1, k2 | ⟨F, k2, k3⟩⟩ := hs j S hS
    · exact ⟨u, k1, big k2⟩
    · exact ⟨u, k1, F, k2.fr s3 fun i hi (e : i = p) => by have := (hX i (k3 i hi)).1; omega, fun i hi => ⟨by simp [k3 i hi], by have := (hX i (k3 i hi)).1; omega, (hX i (k3 i hi)).2.2⟩⟩
  · simp only [List.mem_append] at hi
    rcases hi with (hi | hi) | hi
    · have := h.lt i hi; omega
    · have := ho.lt i hi; omega
    · have := (hX i hi).2.1; omega
  · simp only [List.mem_append] at hi
    rcases hi with (hi | hi) | hi
    · exact .inl hi
    · exact (hF i hi).imp (h.mH i) id
    · exact .inr (hX i hi).1

theorem ownW_one {F : List Nat} {m : Mem} {v : Value} {ws : List Wr} (h : Own2 5 F m v (rowsW ws)) (x : Wr) (hl : ws.length ≤ 1000) :
    ∃ v' m' F', appendE (m.push { cells := x.row, rw := true, spare := none, kin := [] }) 5 56 ZW v (.slice (some ⟨m.next, 0, none⟩) 1 1) = some (.val v' m') ∧ Own2 5 F' m' v' (rowsW (ws ++ [x])) ∧ Fm (· ∈ F) m m' ∧ ∀ i ∈ F', i ∈ F ∨ m.next ≤ i := by
  obtain ⟨v', m', F', h1, h2, h3, h4⟩ := h.one (bytes := 56) (zero := ZW) (row := x.row) rfl (by omega) rfl (by rw [List.length_map]; omega) (by rw [List.length_map]; omega)
  refine ⟨v', m', F', h1, ?_, h3, h4⟩
  rw [rowsW, List.map_append]
  exact h2
abbrev inv36 (m : Mem) (p : Nat) (w : Wr) (W : List Wr) (T : List Wr) (j : Nat) (e : Env) (m' : Mem) : Prop :=
  ∃ (i : Nat) (put : Bool) (acc : List Wr) (out : Value) (F : List Nat), i ≤ W.length ∧ j = W.length - i ∧ acc ++ apR w put (W.drop i) = T ∧ acc.length ≤ 2 * i ∧ m'.get m.next = some { cells := w.row, rw := true, spare := none, kin := [] } ∧ m.next < m'.next ∧ Nx m m' ∧ Own2 5 F m' out (rowsW acc) ∧ (∀ i ∈ F, m.next < i) ∧ e = [(0, Pt p), (3, .pointer (some ⟨m.next, 0, none⟩)), (5, out), (6, .bool put), (7, I (i : Int))]
theorem build5' {m : Mem} {x : Wr} : buildSliceE m ZW 5 1 [(0, .agg ⟨row5 x.key (.bool x.gone) x.num x.text x.bits⟩)] = some (.val (.slice (some ⟨m.next, 0, none⟩) 1 1) (m.push { cells := x.row, rw := true, spare := none, kin := [] })) := by kernel_rfl

theorem rwrite_spec (h : RefM H m p vl vm FM vals W R) (hs : SortW W) (hl : W.length ≤ 16) (hw : w.bits < 18446744073709551616) :
    ∃ m' H' vl', Ca 36 [Pt p, .agg ⟨w.row⟩] m (I ((writeR w W).1 : Int)) m' ∧ RefM H' m' p vl' vm FM vals (writeR w W).2 R ∧ Fm (· ∈ H) m m' ∧ ∀ i ∈ H', i ∈ H ∨ m.next ≤ i := by
  obtain ⟨m1, hm1⟩ : ∃ m1, m.push { cells := w.row, rw := true, spare := none, kin := [] } = m1 := ⟨_, rfl⟩
  have g1 : m1.get m.next = some { cells := w.row, rw := true, spare := none, kin := [] } := by rw [← hm1, push_self]
  have f1 : Nx m m1 := hm1 ▸ .push
  have n1 : m1.next = m.next + 1 := by rw [← hm1]; simp
  have rk := rkey_spec (m := m1) (t := w.key)
  cases e1 : keyOk w.key with
  | false =>
    rw [e1] at rk
    have e : writeR w W = (1, W) := by unfold writeR; rw [e1]; rfl
    rw [e]
    refine ⟨m1, H, vl, callX_of (call_go (F := _) rfl rfl fun Q hQ => ?_), h.nx f1, f1.mono fun _ _ h => h.elim, fun i hi => .inl hi⟩
    simp only [symA, go_opsd, symB, wantedX, X.put, X.look, Arg.ev, keepOf, restrict, evs, evO, initEnv, xres, tup, noTup, cls, quiet, Nat.reduceAdd, Nat.reduceEqDiff, ↓reduceIte, reduceCtorEq, goInt, exists_eq_left', eq_self, Int.reduceLT, Int.reduceLE, Int.reduceEq, Int.reduceNeg, Int.reduceAdd, Int.reduceSub, forall_const, ne_eq, undef, Nat.reducePow, Nat.reduceDiv, Nat.reduceMod, hm1, g1, goR_call rk]
    exact hQ _ _ _ rfl ⟨rfl, rfl⟩
  | true =>
  rw [e1] at rk
  obtain ⟨m2, r1, r2⟩ := rvright_spec (m := m1) (n := w.num) (t := w.text) (b := w.bits) hw
  have lv := ld_val g1
  have f2 : Nx m m2 := f1.comp r2 fun _ _ h => h
  have g2 := r2.get (by omega) (fun h => h) g1
  have n2 := r2.next
  cases e3 : vright w.num w.text w.bits with
  | false =>
    rw [e3] at r1
    have e : writeR w W = (1, W) := by unfold writeR; rw [e1, e3]; rfl
    rw [e]
    refine ⟨m2, H, vl, callX_of (call_go (F := _) rfl rfl fun Q hQ => ?_), h.nx f2, f2.mono fun _ _ h => h.elim, fun i hi => .inl hi⟩
    simp only [symA, go_opsd, symB, wantedX, X.put, X.look, Arg.ev, keepOf, restrict, evs, evO, initEnv, xres, tup, noTup, cls, quiet, Nat.reduceAdd, Nat.reduceEqDiff, ↓reduceIte, reduceCtorEq, goInt, exists_eq_left', eq_self, Int.reduceLT, Int.reduceLE, Int.reduceEq, Int.reduceNeg, Int.reduceAdd, Int.reduceSub, forall_const, ne_eq, undef, Nat.reducePow, Nat.reduceDiv, Nat.reduceMod, hm1, g1, goR_call rk, lv, goR_call r1]
    exact hQ _ _ _ rfl ⟨rfl, rfl⟩
  | true =>
  rw [e3] at r1
  have hW : writeR w W = if 16 < (layW w true W).length then (18, W) else (0, layW w true W) := by
    unfold writeR
    rw [e1, e3, if_neg (by simp)]
  obtain ⟨A, o, B, hc⟩ := cut_ex (k := w.key) hs
  have key : Wc 36 [Pt p, .agg ⟨w.row⟩] m fun r m' => r = I ((writeR w W).1 : Int) ∧ ∃ H' vl', RefM H' m' p vl' vm FM vals (writeR w W).2 R ∧ Fm (· ∈ H) m m' ∧ ∀ i ∈ H', i ∈ H ∨ m.next ≤ i := by
    refine call_go (F := _) rfl rfl fun Q hQ => ?_
    obtain ⟨m3, hm3⟩ : ∃ m3, m2.push { cells := [], rw := true, spare := none, kin := [] } = m3 := ⟨_, rfl⟩
    have f3 : Nx m m3 := f2.comp (hm3 ▸ .push) fun _ _ h => h
    have n3 : m3.next = m2.next + 1 := by rw [← hm3]; simp
    have g3 : m3.get m.next = some { cells := w.row, rw := true, spare := none, kin := [] } := by
      have : Nx m2 m3 := hm3 ▸ .push
      exact this.get (by omega) (fun h => h) g2
    simp only [symA, go_opsd, symB, wantedX, X.put, X.look, Arg.ev, keepOf, restrict, evs, evO, initEnv, xres, tup, noTup, cls, quiet, Nat.reduceAdd, Nat.reduceEqDiff, ↓reduceIte, reduceCtorEq, goInt, exists_eq_left', eq_self, Int.reduceLT, Int.reduceLE, Int.reduceEq, Int.reduceNeg, Int.reduceAdd, Int.reduceSub, forall_const, ne_eq, undef, Nat.reducePow, Nat.reduceDiv, Nat.reduceMod, hm1, g1, goR_call rk, lv, goR_call r1, build50, hm3]
    refine loop_go (inv36 m p w W (layW w true W)) W.length ⟨0, false, [], _, [], by omega, rfl, hc.ap, by simp, g3, by omega, f3, ⟨by simp, .inr ⟨rfl, by simp, _, rfl⟩⟩, by simp, rfl⟩ ?_
    rintro j e m4 N' B' hN hB ⟨i, put, acc, out, F, hi, rfl, hac, hal, hg, hgn, hnx, hown, hF, rfl⟩
    have h4 := h.nx hnx
    have hgp := h4.get
    have lw := ld_wr hg
    by_cases hlt : i < W.length
    · have hlt' : (i : Int) < (W.length : Int) := by omega
      obtain ⟨x, hx⟩ : ∃ x, W[i]? = some x := ⟨_, List.getElem?_eq_getElem hlt⟩
      obtain ⟨a, c', hv, ⟨ox, hgx, c0, _⟩, l5, _⟩ := rdW_at h4.rd hx
      subst hv
      have w1 : IntKind.i64.wrap ((i : Int) + 1) = ((i + 1 : Nat) : Int) := by rw [wrap_i64 (by omega) (by omega)]; omega
      have hd : W.drop i = x :: W.drop (i + 1) := by
        obtain ⟨_, rfl⟩ := List.getElem?_eq_some_iff.1 hx
        exact List.drop_eq_getElem_cons hlt
      rw [hd, apR] at hac
      by_cases hput : put = false ∧ ¬ ltT x.key w.key
      · obtain ⟨rfl, hge⟩ := hput
        rw [if_pos ⟨rfl, hge⟩] at hac
        obtain ⟨out5, m5, F5, q1, q2, q3, q4⟩ := ownW_one hown w (by omega)
        obtain ⟨mp, hp⟩ : ∃ mp, m4.push { cells := w.row, rw := true, spare := none, kin := [] } = mp := ⟨_, rfl⟩
        have b1 := build5 (m := m4) (w := w)
        rw [hp] at q1 b1
        have f5 : Nx m m5 := hnx.comp q3 fun i hi h => by have := hF i h; omega
        have hg5 := q3.get hgn (fun h => by have := hF _ h; omega) hg
        have hgn5 : m.next < m5.next := Nat.lt_of_lt_of_le hgn q3.next
        have hF5 : ∀ i ∈ F5, m.next < i := fun i hi => (q4 i hi).elim (fun h => hF i h) (fun h => by omega)
        have h5 := h.nx f5
        have hgp5 := h5.get
        obtain ⟨a5, c5, hv5, ⟨ox5, hgx5, c05, _⟩, l55, _⟩ := rdW_at h5.rd hx
        cases hv5
        by_cases he : x.key = w.key
        · rw [if_pos he] at hac
          simp only [symA, go_opsd, symB, wantedX, X.put, X.look, Arg.ev, keepOf, restrict, evs, evO, initEnv, xres, tup, noTup, cls, quiet, Nat.reduceAdd, Nat.reduceEqDiff, ↓reduceIte, reduceCtorEq, goInt, exists_eq_left', eq_self, Int.reduceLT, Int.reduceLE, Int.reduceEq, Int.reduceNeg, Int.reduceAdd, Int.reduceSub, forall_const, ne_eq, undef, Nat.reducePow, Nat.reduceDiv, Nat.reduceMod, hgp, hlt, hlt', hgx, c0, hg, bin_sleq, hge, lw, b1, q1, hgp5, hgx5, c05, hg5, bin_sneq, he, ltT_irrefl w.key, w1]
          exact hN _ _ (W.length - (i + 1)) (by omega) ⟨i + 1, true, acc ++ [w], out5, F5, by omega, rfl, by simpa using hac, by simp; omega, hg5, hgn5, f5, q2, hF5, rfl⟩
        · rw [if_neg he] at hac
          obtain ⟨out6, m6, F6, y1, y2, y3, y4⟩ := ownW_one q2 x (by simp; omega)
          obtain ⟨mq, hq⟩ : ∃ mq, m5.push { cells := x.row, rw := true, spare := none, kin := [] } = mq := ⟨_, rfl⟩
          have b2 := build5' (m := m5) (x := x)
          rw [hq] at y1 b2
          simp only [symA, go_opsd, symB, wantedX, X.put, X.look, Arg.ev, keepOf, restrict, evs, evO, initEnv, xres, tup, noTup, cls, quiet, Nat.reduceAdd, Nat.reduceEqDiff, ↓reduceIte, reduceCtorEq, goInt, exists_eq_left', eq_self, Int.reduceLT, Int.reduceLE, Int.reduceEq, Int.reduceNeg, Int.reduceAdd, Int.reduceSub, forall_const, ne_eq, undef, Nat.reducePow, Nat.reduceDiv, Nat.reduceMod, hgp, hlt, hlt', hgx, c0, hg, bin_sleq, hge, lw, b1, q1, hgp5, hgx5, c05, hg5, bin_sneq, he, l55, b2, y1, w1]
          exact hN _ _ (W.length - (i + 1)) (by omega) ⟨i + 1, true, acc ++ [w] ++ [x], out6, F6, by omega, rfl, by simpa using hac, by simp; omega, y3.get hgn5 (fun h => by have := hF5 _ h; omega) hg5, Nat.lt_of_lt_of_le hgn5 y3.next, f5.comp y3 fun i hi h => by have := hF5 i h; omega, y2, fun i hi => (y4 i hi).elim (fun h => hF5 i h) (fun h => by omega), rfl⟩
      · rw [if_neg hput] at hac
        by_cases he : x.key = w.key
        · have hp1 : put = true := by
            cases put with
            | true => rfl
            | false => exact absurd ⟨rfl, by rw [he]; exact ltT_irrefl _⟩ hput
          subst hp1
          rw [if_pos he] at hac
          simp only [symA, go_opsd, symB, wantedX, X.put, X.look, Arg.ev, keepOf, restrict, evs, evO, initEnv, xres, tup, noTup, cls, quiet, Nat.reduceAdd, Nat.reduceEqDiff, ↓reduceIte, reduceCtorEq, goInt, exists_eq_left', eq_self, Int.reduceLT, Int.reduceLE, Int.reduceEq, Int.reduceNeg, Int.reduceAdd, Int.reduceSub, forall_const, ne_eq, undef, Nat.reducePow, Nat.reduceDiv, Nat.reduceMod, hgp, hlt, hlt', hgx, c0, hg, bin_sneq, he, w1]
          exact hN _ _ (W.length - (i + 1)) (by omega) ⟨i + 1, true, acc, out, F, by omega, rfl, by simpa using hac, by omega, hg, hgn, hnx, hown, hF, rfl⟩
        · rw [if_neg he] at hac
          obtain ⟨out6, m6, F6, y1, y2, y3, y4⟩ := ownW_one hown x (by omega)
          obtain ⟨mq, hq⟩ : ∃ mq, m4.push { cells := x.row, rw := true, spare := none, kin := [] } = mq := ⟨_, rfl⟩
          have b2 := build5' (m := m4) (x := x)
          rw [hq] at y1 b2
          have fin : ∀ put', apR w put' (W.drop (i + 1)) = apR w put (W.drop (i + 1)) → inv36 m p w W (layW w true W) (W.length - (i + 1)) [(0, Pt p), (3, .pointer (some ⟨m.next, 0, none⟩)), (5, out6), (6, .bool put'), (7, I ((i + 1 : Nat) : Int))] m6 := fun put' hp =>
            ⟨i + 1, put', acc ++ [x], out6, F6, by omega, rfl, by rw [hp]; simpa using hac, by simp; omega, y3.get hgn (fun h => by have := hF _ h; omega) hg, Nat.lt_of_lt_of_le hgn y3.next, hnx.comp y3 fun i hi h => by have := hF i h; omega, y2, fun i hi => (y4 i hi).elim (fun h => hF i h) (fun h => by omega), rfl⟩
          cases put with
          | true =>
            simp only [symA, go_opsd, symB, wantedX, X.put, X.look, Arg.ev, keepOf, restrict, evs, evO, initEnv, xres, tup, noTup, cls, quiet, Nat.reduceAdd, Nat.reduceEqDiff, ↓reduceIte, reduceCtorEq, goInt, exists_eq_left', eq_self, Int.reduceLT, Int.reduceLE, Int.reduceEq, Int.reduceNeg, Int.reduceAdd, Int.reduceSub, forall_const, ne_eq, undef, Nat.reducePow, Nat.reduceDiv, Nat.reduceMod, hgp, hlt, hlt', hgx, c0, hg, bin_sneq, he, l5, b2, y1, w1]
            exact hN _ _ (W.length - (i + 1)) (by omega) (fin true rfl)
          | false =>
            have hge : ltT x.key w.key := Classical.byContradiction fun hh => hput ⟨rfl, hh⟩
            simp only [symA, go_opsd, symB, wantedX, X.put, X.look, Arg.ev, keepOf, restrict, evs, evO, initEnv, xres, tup, noTup, cls, quiet, Nat.reduceAdd, Nat.reduceEqDiff, ↓reduceIte, reduceCtorEq, goInt, exists_eq_left', eq_self, Int.reduceLT, Int.reduceLE, Int.reduceEq, Int.reduceNeg, Int.reduceAdd, Int.reduceSub, forall_const, ne_eq, undef, Nat.reducePow, Nat.reduceDiv, Nat.reduceMod, hgp, hlt, hlt', hgx, c0, hg, bin_sleq, hge, bin_sneq, he, l5, b2, y1, w1]
            exact hN _ _ (W.length - (i + 1)) (by omega) (fin false rfl)
    · have hlt' : ¬ (i : Int) < (W.length : Int) := by omega
      obtain ⟨q, c, hvl⟩ := h4.slice
      have hd : W.drop i = [] := List.drop_eq_nil_of_le (by omega)
      rw [hd, apR] at hac
      subst hvl
      simp only [symA, go_opsd, symB, wantedX, X.put, X.look, Arg.ev, keepOf, restrict, evs, evO, initEnv, xres, tup, noTup, cls, quiet, Nat.reduceAdd, Nat.reduceEqDiff, ↓reduceIte, reduceCtorEq, goInt, exists_eq_left', eq_self, Int.reduceLT, Int.reduceLE, Int.reduceEq, Int.reduceNeg, Int.reduceAdd, Int.reduceSub, forall_const, ne_eq, undef, Nat.reducePow, Nat.reduceDiv, Nat.reduceMod, hgp, hlt']
      refine hB _ _ _ ?_
      -- what stands at the end
      have fin : ∀ (m5 : Mem) (out5 : Value) (F5 : List Nat), Nx m m5 → Own2 5 F5 m5 out5 (rowsW (layW w true W)) → (∀ i ∈ F5, m.next < i) →
          (16 < (layW w true W).length ∧ (∀ e vs, xres e m5 [.tmp 4] = some vs → tup vs = I 18 → Q e m5)) ∨ (¬ 16 < (layW w true W).length ∧ ∃ m6, storeE m5 1 (.pointer (some ⟨p, 0, none⟩)) out5 = some (.skip m6) ∧ ∀ e vs, xres e m6 [.tmp 4] = some vs → tup vs = I 0 → Q e m6) := fun m5 out5 F5 f5 ho hF5 => by
        by_cases h16 : 16 < (layW w true W).length
        · refine .inl ⟨h16, fun e vs hx ht => hQ e m5 vs hx ⟨by rw [hW, if_pos h16]; exact ht, H, _, by rw [hW, if_pos h16]; exact h.nx f5, f5.mono fun _ _ h => h.elim, fun i hi => .inl hi⟩⟩
        · obtain ⟨m6, H', s1, s2, s3, s4⟩ := h.setL f5 ho (fun i hi => Nat.le_of_lt (hF5 i hi))
          exact .inr ⟨h16, m6, s1, fun e vs hx ht => hQ e m6 vs hx ⟨by rw [hW, if_neg h16]; exact ht, H', _, by rw [hW, if_neg h16]; exact s2, s3, s4⟩⟩
      cases put with
      | true =>
        rw [if_pos rfl, List.append_nil] at hac
        rw [hac] at hown
        obtain ⟨qo, co, hvo⟩ := own_slice hown (by omega)
        rw [List.length_map] at hvo
        subst hvo
        rcases fin m4 _ F hnx hown hF with ⟨h16, hfin⟩ | ⟨h16, m6, s1, hfin⟩
        · have h16' : (16 : Int) < ((layW w true W).length : Int) := by omega
          simp only [symA, go_opsd, symB, wantedX, X.put, X.look, Arg.ev, keepOf, restrict, evs, evO, initEnv, xres, tup, noTup, cls, quiet, Nat.reduceAdd, Nat.reduceEqDiff, ↓reduceIte, reduceCtorEq, goInt, exists_eq_left', eq_self, Int.reduceLT, Int.reduceLE, Int.reduceEq, Int.reduceNeg, Int.reduceAdd, Int.reduceSub, forall_const, ne_eq, undef, Nat.reducePow, Nat.reduceDiv, Nat.reduceMod, h16']
          exact hfin _ _ rfl rfl
        · have h16' : ¬ (16 : Int) < ((layW w true W).length : Int) := by omega
          simp only [symA, go_opsd, symB, wantedX, X.put, X.look, Arg.ev, keepOf, restrict, evs, evO, initEnv, xres, tup, noTup, cls, quiet, Nat.reduceAdd, Nat.reduceEqDiff, ↓reduceIte, reduceCtorEq, goInt, exists_eq_left', eq_self, Int.reduceLT, Int.reduceLE, Int.reduceEq, Int.reduceNeg, Int.reduceAdd, Int.reduceSub, forall_const, ne_eq, undef, Nat.reducePow, Nat.reduceDiv, Nat.reduceMod, h16', s1]
          exact hfin _ _ rfl rfl
      | false =>
        rw [if_neg (by simp)] at hac
        obtain ⟨out5, m5, F5, q1, q2, q3, q4⟩ := ownW_one hown w (by omega)
        obtain ⟨mp, hp⟩ : ∃ mp, m4.push { cells := w.row, rw := true, spare := none, kin := [] } = mp := ⟨_, rfl⟩
        have b1 := build5 (m := m4) (w := w)
        rw [hp] at q1 b1
        rw [hac] at q2
        have f5 : Nx m m5 := hnx.comp q3 fun i hi h => by have := hF i h; omega
        obtain ⟨qo, co, hvo⟩ := own_slice q2 (by omega)
        rw [List.length_map] at hvo
        subst hvo
        rcases fin m5 _ F5 f5 q2 (fun i hi => (q4 i hi).elim (fun h => hF i h) (fun h => by omega)) with ⟨h16, hfin⟩ | ⟨h16, m6, s1, hfin⟩
        · have h16' : (16 : Int) < ((layW w true W).length : Int) := by omega
          simp only [symA, go_opsd, symB, wantedX, X.put, X.look, Arg.ev, keepOf, restrict, evs, evO, initEnv, xres, tup, noTup, cls, quiet, Nat.reduceAdd, Nat.reduceEqDiff, ↓reduceIte, reduceCtorEq, goInt, exists_eq_left', eq_self, Int.reduceLT, Int.reduceLE, Int.reduceEq, Int.reduceNeg, Int.reduceAdd, Int.reduceSub, forall_const, ne_eq, undef, Nat.reducePow, Nat.reduceDiv, Nat.reduceMod, lw, b1, q1, h16']
          exact hfin _ _ rfl rfl
        · have h16' : ¬ (16 : Int) < ((layW w true W).length : Int) := by omega
          simp only [symA, go_opsd, symB, wantedX, X.put, X.look, Arg.ev, keepOf, restrict, evs, evO, initEnv, xres, tup, noTup, cls, quiet, Nat.reduceAdd, Nat.reduceEqDiff, ↓reduceIte, reduceCtorEq, goInt, exists_eq_left', eq_self, Int.reduceLT, Int.reduceLE, Int.reduceEq, Int.reduceNeg, Int.reduceAdd, Int.reduceSub, forall_const, ne_eq, undef, Nat.reducePow, Nat.reduceDiv, Nat.reduceMod, lw, b1, q1, h16', s1]
          exact hfin _ _ rfl rfl
  obtain ⟨r, m', hcall, rfl, H', vl', k1, k2, k3⟩ := key
  exact ⟨m', H', vl', hcall, k1, k2, k3⟩
end
end Go.Proofs.Ytecceimgpeookaa
