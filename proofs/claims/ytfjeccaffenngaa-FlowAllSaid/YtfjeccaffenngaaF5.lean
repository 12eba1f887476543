/-
  Own work. What the document's deeds come to, and the table of a law.
-/
import Derived.Test.YtfjeccaffenngaaF4
namespace Go.Proofs.Ytfjeccaffenngaa
open Go X
set_option maxRecDepth 100000
set_option linter.unusedVariables false
set_option linter.unusedSimpArgs false

section
variable {m : Mem} {b : Nat} {F : List Nat} {p : Option Addr} {R : Rf} {dk dw dt dg : Int} {dm : Bool}

theorem rdo_spec (h : RefAt m b F p R) (hl : R.l.length ≤ 100000) (ht : R.tags ≤ 16) : Wc 28 [Pt b, .agg ⟨rowD dk dw dt dg dm⟩] m fun _ m' => ∃ F' p', RefAt m' b F' p' (doR R ⟨dk, dw, dt, dg, dm⟩) ∧ (∀ i ∈ F', i ∈ F ∨ m.next ≤ i) ∧ Fm (fun i => i = b ∨ i ∈ F) m m' := by
  refine call_go (F := _) rfl rfl fun Q hQ => ?_
  obtain ⟨m1, hm1⟩ : ∃ m1, m.push { cells := rowD dk dw dt dg dm, rw := true, spare := none, kin := [] } = m1 := ⟨_, rfl⟩
  have g1 : m1.get m.next = some { cells := rowD dk dw dt dg dm, rw := true, spare := none, kin := [] } := by rw [← hm1, push_self]
  have f1 : Nx m m1 := hm1 ▸ .push
  have hn1 : m1.next = m.next + 1 := by rw [← hm1]; simp
  have la : ldA m1 5 (Pt m.next) = some (.val (.agg ⟨rowD dk dw dt dg dm⟩) m1) := by simp [ldA, xload, g1]
  obtain ⟨m2, k1, f2⟩ := rcheck_spec (dk := dk) (dw := dw) (dt := dt) (dg := dg) (dm := dm) (h.nx f1) hl ht
  have hn2 := f2.next
  have g2 := f2.get (by omega) (fun h => h) g1
  have h2 := (h.nx f1).nx f2
  have f12 : Nx m m2 := f1.trans f2
  have hlb := h.lb
  have hF := h.own.lt
  by_cases hc : checkR R ⟨dk, dw, dt, dg, dm⟩ = 0
  · rw [hc] at k1
    by_cases hk2 : dk = 2
    · subst hk2
      have e : doR R ⟨2, dw, dt, dg, dm⟩ = { R with l := R.l ++ [(dt, dg, dm)] } := by simp [doR, hc]
      rw [e] at hQ
      have bu : ∀ m : Mem, buildE m [I 0, U 0, .bool false] [(0, 1), (1, 1), (2, 1)] [(0, I dt), (1, U dg), (2, .bool dm)] = some (.val (.agg ⟨rowR (dt, dg, dm)⟩) m) := fun m => by kernel_rfl
      obtain ⟨m3, hm3⟩ : ∃ m3, m2.push { cells := ([(dt, dg, dm)].map rowR).flatten, rw := true, spare := none, kin := [] } = m3 := ⟨_, rfl⟩
      have bs : buildSliceE m2 [I 0, U 0, .bool false] 3 1 [(0, .agg ⟨rowR (dt, dg, dm)⟩)] = some (.val (.slice (some ⟨m2.next, 0, none⟩) 1 1) m3) := by rw [← hm3]; kernel_rfl
      have f3 : Nx m2 m3 := hm3 ▸ .push
      have hn3 := f3.next
      have g3 := f3.get (by omega) (fun h => h) g2
      have gx : m3.get m2.next = some { cells := ([(dt, dg, dm)].map rowR).flatten, rw := true, spare := none, kin := [] } := by rw [← hm3, push_self]
      have h3 := h2.nx f3
      obtain ⟨p', m4, F', a1, a2, a3, a4⟩ := h3.append hl (id := m2.next) (c := 1) (ys := [(dt, dg, dm)]) (by simp) (by simp) gx
      have a1' : appendE m3 3 24 [I 0, U 0, .bool false] (.slice p R.l.length R.l.length) (.slice (some ⟨m2.next, 0, none⟩) 1 1) = some (.val (.slice p' (R.l ++ [(dt, dg, dm)]).length (R.l ++ [(dt, dg, dm)]).length) m4) := a1
      have hn4 := a3.next
      have gb4 := a3.get h3.lb h3.nb h3.gb
      have g4 := a3.get (by omega) (fun hi => by have := hF _ hi; omega) g3
      have hnb : b ∉ F' := fun hi => by
        rcases a4 b hi with hi | hi
        · exact h.nb hi
        · omega
      obtain ⟨m5, s5, h5, f5⟩ := RefAt.slice gb4 (by omega) a2 hnb
      have g5 := f5.get (by omega) (fun h => by omega) g4
      simp only [symA, go_opsd, symB, wantedX, X.put, X.look, Arg.ev, keepOf, restrict, evs, evO, initEnv, xres, tup, noTup, cls, quiet, Nat.reduceAdd, Nat.reduceEqDiff, ↓reduceIte, reduceCtorEq, goInt, exists_eq_left', eq_self, Int.reduceLT, Int.reduceLE, Int.reduceEq, Int.reduceNeg, Int.reduceAdd, Int.reduceSub, forall_const, ne_eq, undef, Nat.reducePow, Nat.reduceDiv, Nat.reduceMod, hm1, la, goR_call k1, g2, g3, g4, g5, h2.gb, h3.gb, bu, bs, a1', s5]
      refine hQ _ _ _ rfl ⟨F', p', h5, fun i hi => ?_, ?_⟩
      · rcases a4 i hi with hi | hi
        · exact .inl hi
        · exact .inr (by omega)
      · refine ((f12.trans f3).mono (S' := fun i => i = b ∨ i ∈ F) fun _ _ h => h.elim).trans ?_
        exact (a3.mono (S' := fun i => i = b ∨ i ∈ F) fun _ _ h => .inr h).trans (f5.mono fun _ _ h => .inl h)
    · have e : doR R ⟨dk, dw, dt, dg, dm⟩ = { R with tags := R.tags + 1, l := R.l ++ [(dw, ((R.tags + 1 : Nat) : Int), false), (dw, ((R.tags + 1 : Nat) : Int), true)] } := by simp [doR, hc, hk2]
      rw [e] at hQ
      have w1 : IntKind.i64.wrap ((R.tags : Int) + 1) = ((R.tags + 1 : Nat) : Int) := by rw [wrap_i64 (by omega) (by omega)]; omega
      have cv : ∀ m : Mem, convE Try.prog 3 30 m (I ((R.tags + 1 : Nat) : Int)) = some (.val (U ((R.tags + 1 : Nat) : Int)) m) := fun m => conv_nu (by omega)
      obtain ⟨m3, s3, h3, f3⟩ := h2.up
      have hn3 := f3.next
      have g3 := f3.get (by omega) (fun h => by omega) g2
      obtain ⟨k, hk⟩ : ∃ k : Int, k = ((R.tags + 1 : Nat) : Int) := ⟨_, rfl⟩
      have bu1 : ∀ m : Mem, buildE m [I 0, U 0, .bool false] [(0, 1), (1, 1), (2, 1)] [(0, I dw), (1, U ((R.tags + 1 : Nat) : Int))] = some (.val (.agg ⟨rowR (dw, ((R.tags + 1 : Nat) : Int), false)⟩) m) := fun m => by rw [← hk]; kernel_rfl
      have bu2 : ∀ m : Mem, buildE m [I 0, U 0, .bool false] [(0, 1), (1, 1), (2, 1)] [(0, I dw), (1, U ((R.tags + 1 : Nat) : Int)), (2, .bool true)] = some (.val (.agg ⟨rowR (dw, ((R.tags + 1 : Nat) : Int), true)⟩) m) := fun m => by rw [← hk]; kernel_rfl
      obtain ⟨m4, hm4⟩ : ∃ m4, m3.push { cells := ([(dw, ((R.tags + 1 : Nat) : Int), false), (dw, ((R.tags + 1 : Nat) : Int), true)].map rowR).flatten, rw := true, spare := none, kin := [] } = m4 := ⟨_, rfl⟩
      have bs : buildSliceE m3 [I 0, U 0, .bool false] 3 2 [(0, .agg ⟨rowR (dw, ((R.tags + 1 : Nat) : Int), false)⟩), (1, .agg ⟨rowR (dw, ((R.tags + 1 : Nat) : Int), true)⟩)] = some (.val (.slice (some ⟨m3.next, 0, none⟩) 2 2) m4) := by rw [← hm4, ← hk]; kernel_rfl
      have f4 : Nx m3 m4 := hm4 ▸ .push
      have hn4 := f4.next
      have g4 := f4.get (by omega) (fun h => h) g3
      have gx : m4.get m3.next = some { cells := ([(dw, ((R.tags + 1 : Nat) : Int), false), (dw, ((R.tags + 1 : Nat) : Int), true)].map rowR).flatten, rw := true, spare := none, kin := [] } := by rw [← hm4, push_self]
      have h4 := h3.nx f4
      obtain ⟨p', m5, F', a1, a2, a3, a4⟩ := h4.append hl (id := m3.next) (c := 2) (ys := [(dw, ((R.tags + 1 : Nat) : Int), false), (dw, ((R.tags + 1 : Nat) : Int), true)]) (by simp) (by simp) gx
      have a1' : appendE m4 3 24 [I 0, U 0, .bool false] (.slice p R.l.length R.l.length) (.slice (some ⟨m3.next, 0, none⟩) 2 2) = some (.val (.slice p' (R.l ++ [(dw, ((R.tags + 1 : Nat) : Int), false), (dw, ((R.tags + 1 : Nat) : Int), true)]).length (R.l ++ [(dw, ((R.tags + 1 : Nat) : Int), false), (dw, ((R.tags + 1 : Nat) : Int), true)]).length) m5) := a1
      have hn5 := a3.next
      have gb5 := a3.get h4.lb h4.nb h4.gb
      have g5 := a3.get (by omega) (fun hi => by have := hF _ hi; omega) g4
      have hnb : b ∉ F' := fun hi => by
        rcases a4 b hi with hi | hi
        · exact h.nb hi
        · omega
      obtain ⟨m6, s6, h6, f6⟩ := RefAt.slice gb5 (by omega) a2 hnb
      simp only [symA, go_opsd, symB, wantedX, X.put, X.look, Arg.ev, keepOf, restrict, evs, evO, initEnv, xres, tup, noTup, cls, quiet, Nat.reduceAdd, Nat.reduceEqDiff, ↓reduceIte, reduceCtorEq, goInt, exists_eq_left', eq_self, Int.reduceLT, Int.reduceLE, Int.reduceEq, Int.reduceNeg, Int.reduceAdd, Int.reduceSub, forall_const, ne_eq, undef, Nat.reducePow, Nat.reduceDiv, Nat.reduceMod, hm1, la, goR_call k1, g2, g3, g4, g5, hk2, h2.gb, h3.gb, h4.gb, w1, cv, s3, bu1, bu2, bs, a1', s6]
      refine hQ _ _ _ rfl ⟨F', p', h6, fun i hi => ?_, ?_⟩
      · rcases a4 i hi with hi | hi
        · exact .inl hi
        · exact .inr (by omega)
      · refine (f12.mono (S' := fun i => i = b ∨ i ∈ F) fun _ _ h => h.elim).trans ?_
        refine (f3.mono (S' := fun i => i = b ∨ i ∈ F) fun _ _ h => .inl h).trans ?_
        refine (f4.mono (S' := fun i => i = b ∨ i ∈ F) fun _ _ h => h.elim).trans ?_
        exact (a3.mono (S' := fun i => i = b ∨ i ∈ F) fun _ _ h => .inr h).trans (f6.mono fun _ _ h => .inl h)
  · have e : doR R ⟨dk, dw, dt, dg, dm⟩ = R := by simp [doR, hc]
    rw [e] at hQ
    simp only [symA, go_opsd, symB, wantedX, X.put, X.look, Arg.ev, keepOf, restrict, evs, evO, initEnv, xres, tup, noTup, cls, quiet, Nat.reduceAdd, Nat.reduceEqDiff, ↓reduceIte, reduceCtorEq, goInt, exists_eq_left', eq_self, Int.reduceLT, Int.reduceLE, Int.reduceEq, Int.reduceNeg, Int.reduceAdd, Int.reduceSub, forall_const, ne_eq, undef, Nat.reducePow, Nat.reduceDiv, Nat.reduceMod, hm1, la, goR_call k1, hc]
    exact hQ _ _ _ rfl ⟨F, p, h2, fun i hi => .inl hi, f12.mono fun _ _ h => h.elim⟩
end

/-! ## Deeds that are read -/
abbrev Deed.row (d : Deed) : List Value := rowD d.kind d.who d.to d.tag d.minus
abbrev RdD (b : Nat) (m : Mem) (v : Value) (ds : List Deed) : Prop := RdS b m 5 v (ds.map Deed.row)
section
variable {b : Nat} {m : Mem} {v : Value} {ds : List Deed}
theorem rdd_slice (h : RdD b m v ds) : ∃ p c, v = .slice p ds.length c := by
  obtain ⟨p, c, rfl⟩ := h.slice
  exact ⟨p, c, by simp⟩
theorem rdd_at (h : RdD b m v ds) {i : Nat} {d : Deed} (hi : ds[i]? = some d) : ∃ a c o, v = .slice (some a) ds.length c ∧ m.get a.block = some o ∧ o.cells[a.off + i * 5]? = some (I d.kind) ∧
    ldA m 5 (.pointer (some ⟨a.block, a.off + i * 5, none⟩)) = some (.val (.agg ⟨rowD d.kind d.who d.to d.tag d.minus⟩) m) := by
  obtain ⟨p, c, rfl, hc, h⟩ := h
  obtain ⟨h1, a, o, rfl, h3, h4, h5⟩ := h i d.row (by simp [hi])
  refine ⟨a, c, o, by simp, h4, by simpa using h5 0 (by omega), ?_⟩
  have := xload_cells (m := m) (b := a.block) (off := a.off + i * 5) (n := 5) (r := d.row) h4 rfl (by omega) h5
  simp [ldA, this]
end

/-! ## The law's table -/
def fits (R : Rf) (d : Deed) : Bool := decide (R.tags < 8) || decide (d.kind ≠ 1)
def stepB (s : Tb × Rf) (d : Deed) : Tb × Rf := bif fits s.2 d then (doT s.1 d, doR s.2 d) else s
def startB (n : Nat) : Tb × Rf := (newT n, ⟨n, 0, []⟩)
theorem doR_tags {R : Rf} {d : Deed} (h : R.tags ≤ 16) : (doR R d).tags ≤ 16 := by
  unfold doR
  cases hc : decide (checkR R d = 0) with
  | false => exact h
  | true =>
    cases hk : decide (d.kind = 2) with
    | true => exact h
    | false =>
      rw [decide_eq_true_eq] at hc
      rw [decide_eq_false_iff_not] at hk
      show R.tags + 1 ≤ 16
      by_cases h16 : 16 ≤ R.tags
      · exfalso
        by_cases h1 : d.kind = 1
        · by_cases x1 : d.to = 0 <;> by_cases x2 : d.tag = 0 <;> cases x3 : d.minus <;> cases ho : oneR R d.who <;> simp [checkR, h1, h16, x1, x2, x3, ho] at hc
        · simp [checkR, h1, hk] at hc
      · omega
theorem doR_len (R : Rf) (d : Deed) : (doR R d).l.length ≤ R.l.length + 2 := by
  unfold doR
  cases decide (checkR R d = 0) with
  | false => simp
  | true => cases decide (d.kind = 2) <;> simp

structure BothAt (m : Mem) (t r b : Nat) (F : List Nat) (p : Option Addr) (s : Tb × Rf) : Prop where
  tab : TabAt m t r s.1
  ref : RefAt m b F p s.2
  wf : s.1.Wf
  tags : s.2.tags ≤ 16
  nt : t ≠ b ∧ r ≠ b
  nF : t ∉ F ∧ r ∉ F

theorem table_bad {m : Mem} {n : Int} {v : Value} (h : n < 1 ∨ 8 < n) : Ca 9 [I n, v] m (.tuple #[.pointer none, .pointer none, .bool false]) m := by
  refine callX_of (call_go (F := _) rfl rfl fun Q hQ => ?_)
  simp only [symA, go_opsd, symB, wantedX, X.put, X.look, Arg.ev, keepOf, restrict, evs, evO, initEnv, xres, tup, noTup, cls, quiet, Nat.reduceAdd, Nat.reduceEqDiff, ↓reduceIte, reduceCtorEq, goInt, exists_eq_left', eq_self, Int.reduceLT, Int.reduceLE, Int.reduceEq, Int.reduceNeg, Int.reduceAdd, Int.reduceSub, forall_const, ne_eq, undef, Nat.reducePow, Nat.reduceDiv, Nat.reduceMod, goR_call (new_bad h)]
  exact hQ _ _ _ rfl ⟨rfl, rfl⟩
theorem table_spec {b0 : Nat} {m : Mem} {n : Nat} {v : Value} {ds : List Deed} (h1 : 1 ≤ n) (h2 : n ≤ 8) (hv : RdD b0 m v ds) (hb : b0 ≤ m.next) :
    Wc 9 [I (n : Int), v] m fun r' m' => ∃ t r b F p, r' = .tuple #[Pt t, Pt b, .bool true] ∧ BothAt m' t r b F p ((ds.take 60).foldl stepB (startB n)) ∧ (m.next ≤ t ∧ m.next ≤ r ∧ m.next ≤ b ∧ ∀ i ∈ F, m.next ≤ i) ∧ Nx m m' := by
  refine call_go (F := _) rfl rfl fun Q hQ => ?_
  obtain ⟨m1, k1, t1, f1, n1⟩ := new_spec (m := m) h1 h2
  obtain ⟨pv, cv, rfl⟩ := rdd_slice hv
  have bu : ∀ m : Mem, buildE m [I 0, I 0, .slice none 0 0] [(0, 1), (1, 1), (2, 1)] [(0, I (n : Int))] = some (.val (.agg ⟨[I (n : Int), I 0, .slice none 0 0]⟩) m) := fun m => by kernel_rfl
  obtain ⟨m2, hm2⟩ : ∃ m2, m1.push { cells := [I (n : Int), I 0, .slice none 0 0], rw := true, spare := none, kin := [] } = m2 := ⟨_, rfl⟩
  have f2 : Nx m1 m2 := hm2 ▸ .push
  have hn2 : m2.next = m.next + 3 := by rw [← hm2]; simp [n1]
  have g2 : m2.get m1.next = some { cells := [I (n : Int), I 0, .slice none 0 0], rw := true, spare := none, kin := [] } := by rw [← hm2, push_self]
  have start : BothAt m2 (m.next + 1) m.next m1.next [] none (startB n) :=
    ⟨t1.nx f2, ⟨g2, OwnS.nil (by simp), by simp, by omega⟩, newT_wf h1 h2, by show (0 : Nat) ≤ 16; omega, ⟨by omega, by omega⟩, by simp, by simp⟩
  simp only [symA, go_opsd, symB, wantedX, X.put, X.look, Arg.ev, keepOf, restrict, evs, evO, initEnv, xres, tup, noTup, cls, quiet, Nat.reduceAdd, Nat.reduceEqDiff, ↓reduceIte, reduceCtorEq, goInt, exists_eq_left', eq_self, Int.reduceLT, Int.reduceLE, Int.reduceEq, Int.reduceNeg, Int.reduceAdd, Int.reduceSub, forall_const, ne_eq, undef, Nat.reducePow, Nat.reduceDiv, Nat.reduceMod, goR_call k1, bu, hm2]
  refine loop_go (fun j e m' => ∃ (i : Nat) (F : List Nat) (p : Option Addr), i ≤ ds.length ∧ i ≤ 60 ∧ j = 60 - i ∧ BothAt m' (m.next + 1) m.next m1.next F p ((ds.take i).foldl stepB (startB n)) ∧ ((ds.take i).foldl stepB (startB n)).2.l.length ≤ 2 * i ∧ (∀ x ∈ F, m.next ≤ x) ∧ m2.next ≤ m'.next ∧ Nx m m' ∧
    e = [(1, .slice pv ds.length cv), (7, Pt (m.next + 1)), (9, Pt m1.next), (10, I i)]) 60 ⟨0, [], none, by omega, by omega, rfl, start, by simp [startB], by simp, Nat.le_refl _, f1.trans f2, rfl⟩ ?_
  rintro j e m' N' B' hN hB ⟨i, F, p, hi, hi60, rfl, hB0, hlen, hF, hnx, hfm, rfl⟩
  have hexit : ¬ (i < ds.length ∧ i < 60) → ds.take i = ds.take 60 := fun hne => by
    by_cases h60 : i < 60
    · rw [List.take_of_length_le (by omega), List.take_of_length_le (by omega)]
    · have : i = 60 := by omega
      rw [this]
  by_cases hlt : i < ds.length
  · have hlt' : (i : Int) < (ds.length : Int) := by omega
    by_cases h60 : i < 60
    · have h60' : (i : Int) < 60 := by omega
      obtain ⟨d, hd⟩ : ∃ d, ds[i]? = some d := ⟨_, List.getElem?_eq_getElem hlt⟩
      obtain ⟨a, c', o, hva, ho, hc, l5⟩ := rdd_at (hv.fr hfm hb (fun _ h => h.elim)) hd
      cases hva
      have w1 : IntKind.i64.wrap ((i : Int) + 1) = ((i + 1 : Nat) : Int) := by rw [wrap_i64 (by omega) (by omega)]; omega
      obtain ⟨s, hs⟩ : ∃ s, (ds.take i).foldl stepB (startB n) = s := ⟨_, rfl⟩
      rw [hs] at hB0 hlen
      have hnext : (ds.take (i + 1)).foldl stepB (startB n) = stepB s d := by rw [List.take_add_one, hd, List.foldl_append, hs]; rfl
      by_cases hf : s.2.tags < 8 ∨ d.kind ≠ 1
      · have hfit : stepB s d = (doT s.1 d, doR s.2 d) := by
          have : fits s.2 d = true := by
            unfold fits
            rcases hf with hf | hf <;> simp [hf]
          unfold stepB; rw [this]; rfl
        have k2 := do_spec (dk := d.kind) (dw := d.who) (dt := d.to) (dg := d.tag) (dm := d.minus) hB0.tab hB0.wf
        have rest : ∀ (m3 : Mem), (TabAt m3 (m.next + 1) m.next (doT s.1 d) ∧ Fm (fun x => x = m.next + 1 ∨ x = m.next) m' m3) → RefAt m3 m1.next F p s.2 ∧ Nx m m3 ∧ m2.next ≤ m3.next := fun m3 h3 => by
          have hnt := hB0.nt
          have hnF := hB0.nF
          refine ⟨hB0.ref.fr h3.2 (by rintro (h | h) <;> omega) (fun x hx => ?_), hfm.comp h3.2 (fun x hx h => by omega), Nat.le_trans hnx h3.2.next⟩
          rintro (rfl | rfl)
          · exact hnF.1 hx
          · exact hnF.2 hx
        have fin : ∀ (m3 m4 : Mem) (F' : List Nat) (p' : Option Addr), (TabAt m3 (m.next + 1) m.next (doT s.1 d) ∧ Fm (fun x => x = m.next + 1 ∨ x = m.next) m' m3) → RefAt m4 m1.next F' p' (doR s.2 d) → (∀ x ∈ F', x ∈ F ∨ m3.next ≤ x) → Fm (fun x => x = m1.next ∨ x ∈ F) m3 m4 →
            BothAt m4 (m.next + 1) m.next m1.next F' p' (stepB s d) ∧ (stepB s d).2.l.length ≤ 2 * (i + 1) ∧ (∀ x ∈ F', m.next ≤ x) ∧ m2.next ≤ m4.next ∧ Nx m m4 := fun m3 m4 F' p' h3 r4 hF4 f4 => by
          obtain ⟨_, hnx3, hn3⟩ := rest m3 h3
          have hnt := hB0.nt
          have hnF := hB0.nF
          rw [hfit]
          refine ⟨⟨h3.1.fr f4 ?_ ?_, r4, doT_wf hB0.wf d, doR_tags hB0.tags, hnt, ?_, ?_⟩, ?_, fun x hx => ?_, Nat.le_trans hn3 f4.next, hnx3.comp f4 (fun x hx h => ?_)⟩
          · rintro (h | h)
            · omega
            · exact hnF.1 h
          · rintro (h | h)
            · omega
            · exact hnF.2 h
          · intro h
            rcases hF4 _ h with h | h
            · exact hnF.1 h
            · omega
          · intro h
            rcases hF4 _ h with h | h
            · exact hnF.2 h
            · omega
          · have := doR_len s.2 d
            show (doR s.2 d).l.length ≤ _
            omega
          · rcases hF4 _ hx with h | h
            · exact hF x h
            · omega
          · rcases h with h | h
            · omega
            · have := hF x h; omega
        by_cases ht8 : (s.2.tags : Int) < 8
        · simp only [symA, go_opsd, symB, wantedX, X.put, X.look, Arg.ev, keepOf, restrict, evs, evO, initEnv, xres, tup, noTup, cls, quiet, Nat.reduceAdd, Nat.reduceEqDiff, ↓reduceIte, reduceCtorEq, goInt, exists_eq_left', eq_self, Int.reduceLT, Int.reduceLE, Int.reduceEq, Int.reduceNeg, Int.reduceAdd, Int.reduceSub, forall_const, ne_eq, undef, Nat.reducePow, Nat.reduceDiv, Nat.reduceMod, hlt, hlt', h60', hB0.ref.gb, ht8, l5]
          refine goR_wp k2 fun _ m3 h3 => ?_
          obtain ⟨r3, hnx3, hn3⟩ := rest m3 h3
          obtain ⟨a3, c3, o3, hva3, ho3, hc3, l53⟩ := rdd_at (hv.fr hnx3 hb (fun _ h => h.elim)) hd
          cases hva3
          simp only [symA, go_opsd, symB, wantedX, X.put, X.look, Arg.ev, keepOf, restrict, evs, evO, initEnv, xres, tup, noTup, cls, quiet, Nat.reduceAdd, Nat.reduceEqDiff, ↓reduceIte, reduceCtorEq, goInt, exists_eq_left', eq_self, Int.reduceLT, Int.reduceLE, Int.reduceEq, Int.reduceNeg, Int.reduceAdd, Int.reduceSub, forall_const, ne_eq, undef, Nat.reducePow, Nat.reduceDiv, Nat.reduceMod, hlt, l53]
          refine goR_wp (rdo_spec r3 (by omega) hB0.tags) ?_
          rintro _ m4 ⟨F', p', r4, hF4, f4⟩
          obtain ⟨q1, q2, q3, q4, q5⟩ := fin m3 m4 F' p' h3 r4 hF4 f4
          simp only [symA, go_opsd, symB, wantedX, X.put, X.look, Arg.ev, keepOf, restrict, evs, evO, initEnv, xres, tup, noTup, cls, quiet, Nat.reduceAdd, Nat.reduceEqDiff, ↓reduceIte, reduceCtorEq, goInt, exists_eq_left', eq_self, Int.reduceLT, Int.reduceLE, Int.reduceEq, Int.reduceNeg, Int.reduceAdd, Int.reduceSub, forall_const, ne_eq, undef, Nat.reducePow, Nat.reduceDiv, Nat.reduceMod, w1]
          exact hN _ _ (60 - (i + 1)) (by omega) ⟨i + 1, F', p', by omega, by omega, rfl, by rw [hnext]; exact q1, by rw [hnext]; exact q2, q3, q4, q5, rfl⟩
        · have hk1 : ¬ d.kind = 1 := by
            rcases hf with hf | hf
            · omega
            · exact hf
          simp only [symA, go_opsd, symB, wantedX, X.put, X.look, Arg.ev, keepOf, restrict, evs, evO, initEnv, xres, tup, noTup, cls, quiet, Nat.reduceAdd, Nat.reduceEqDiff, ↓reduceIte, reduceCtorEq, goInt, exists_eq_left', eq_self, Int.reduceLT, Int.reduceLE, Int.reduceEq, Int.reduceNeg, Int.reduceAdd, Int.reduceSub, forall_const, ne_eq, undef, Nat.reducePow, Nat.reduceDiv, Nat.reduceMod, hlt, hlt', h60', hB0.ref.gb, ht8, ho, hc, hk1, l5]
          refine goR_wp k2 fun _ m3 h3 => ?_
          obtain ⟨r3, hnx3, hn3⟩ := rest m3 h3
          obtain ⟨a3, c3, o3, hva3, ho3, hc3, l53⟩ := rdd_at (hv.fr hnx3 hb (fun _ h => h.elim)) hd
          cases hva3
          simp only [symA, go_opsd, symB, wantedX, X.put, X.look, Arg.ev, keepOf, restrict, evs, evO, initEnv, xres, tup, noTup, cls, quiet, Nat.reduceAdd, Nat.reduceEqDiff, ↓reduceIte, reduceCtorEq, goInt, exists_eq_left', eq_self, Int.reduceLT, Int.reduceLE, Int.reduceEq, Int.reduceNeg, Int.reduceAdd, Int.reduceSub, forall_const, ne_eq, undef, Nat.reducePow, Nat.reduceDiv, Nat.reduceMod, hlt, l53]
          refine goR_wp (rdo_spec r3 (by omega) hB0.tags) ?_
          rintro _ m4 ⟨F', p', r4, hF4, f4⟩
          obtain ⟨q1, q2, q3, q4, q5⟩ := fin m3 m4 F' p' h3 r4 hF4 f4
          simp only [symA, go_opsd, symB, wantedX, X.put, X.look, Arg.ev, keepOf, restrict, evs, evO, initEnv, xres, tup, noTup, cls, quiet, Nat.reduceAdd, Nat.reduceEqDiff, ↓reduceIte, reduceCtorEq, goInt, exists_eq_left', eq_self, Int.reduceLT, Int.reduceLE, Int.reduceEq, Int.reduceNeg, Int.reduceAdd, Int.reduceSub, forall_const, ne_eq, undef, Nat.reducePow, Nat.reduceDiv, Nat.reduceMod, w1]
          exact hN _ _ (60 - (i + 1)) (by omega) ⟨i + 1, F', p', by omega, by omega, rfl, by rw [hnext]; exact q1, by rw [hnext]; exact q2, q3, q4, q5, rfl⟩
      · have hfit : stepB s d = s := by
          have : fits s.2 d = false := by
            unfold fits
            rw [Bool.or_eq_false_iff]
            exact ⟨decide_eq_false (fun h => hf (.inl h)), decide_eq_false (fun h => hf (.inr h))⟩
          unfold stepB; rw [this]; rfl
        have ht8 : ¬ (s.2.tags : Int) < 8 := fun h => hf (.inl (by omega))
        have hk1 : d.kind = 1 := by
          by_cases hk : d.kind = 1
          · exact hk
          · exact absurd (.inr hk) hf
        simp only [symA, go_opsd, symB, wantedX, X.put, X.look, Arg.ev, keepOf, restrict, evs, evO, initEnv, xres, tup, noTup, cls, quiet, Nat.reduceAdd, Nat.reduceEqDiff, ↓reduceIte, reduceCtorEq, goInt, exists_eq_left', eq_self, Int.reduceLT, Int.reduceLE, Int.reduceEq, Int.reduceNeg, Int.reduceAdd, Int.reduceSub, forall_const, ne_eq, undef, Nat.reducePow, Nat.reduceDiv, Nat.reduceMod, hlt, hlt', h60', hB0.ref.gb, ht8, ho, hc, hk1, w1]
        exact hN _ _ (60 - (i + 1)) (by omega) ⟨i + 1, F, p, by omega, by omega, rfl, by rw [hnext, hfit]; exact hB0, by rw [hnext, hfit]; omega, hF, hnx, hfm, rfl⟩
    · have h60' : ¬ (i : Int) < 60 := by omega
      rw [hexit (fun h => h60 h.2)] at hB0
      simp only [symA, go_opsd, symB, wantedX, X.put, X.look, Arg.ev, keepOf, restrict, evs, evO, initEnv, xres, tup, noTup, cls, quiet, Nat.reduceAdd, Nat.reduceEqDiff, ↓reduceIte, reduceCtorEq, goInt, exists_eq_left', eq_self, Int.reduceLT, Int.reduceLE, Int.reduceEq, Int.reduceNeg, Int.reduceAdd, Int.reduceSub, forall_const, ne_eq, undef, Nat.reducePow, Nat.reduceDiv, Nat.reduceMod, hlt', h60']
      refine hB _ _ _ ?_
      simp only [symA, go_opsd, symB, wantedX, X.put, X.look, Arg.ev, keepOf, restrict, evs, evO, initEnv, xres, tup, noTup, cls, quiet, Nat.reduceAdd, Nat.reduceEqDiff, ↓reduceIte, reduceCtorEq, goInt, exists_eq_left', eq_self, Int.reduceLT, Int.reduceLE, Int.reduceEq, Int.reduceNeg, Int.reduceAdd, Int.reduceSub, forall_const, ne_eq, undef, Nat.reducePow, Nat.reduceDiv, Nat.reduceMod]
      exact hQ _ _ _ rfl ⟨_, _, _, F, p, rfl, hB0, ⟨by omega, Nat.le_refl _, by omega, hF⟩, hfm⟩
  · have hlt' : ¬ (i : Int) < (ds.length : Int) := by omega
    rw [hexit (fun h => hlt h.1)] at hB0
    simp only [symA, go_opsd, symB, wantedX, X.put, X.look, Arg.ev, keepOf, restrict, evs, evO, initEnv, xres, tup, noTup, cls, quiet, Nat.reduceAdd, Nat.reduceEqDiff, ↓reduceIte, reduceCtorEq, goInt, exists_eq_left', eq_self, Int.reduceLT, Int.reduceLE, Int.reduceEq, Int.reduceNeg, Int.reduceAdd, Int.reduceSub, forall_const, ne_eq, undef, Nat.reducePow, Nat.reduceDiv, Nat.reduceMod, hlt']
    refine hB _ _ _ ?_
    simp only [symA, go_opsd, symB, wantedX, X.put, X.look, Arg.ev, keepOf, restrict, evs, evO, initEnv, xres, tup, noTup, cls, quiet, Nat.reduceAdd, Nat.reduceEqDiff, ↓reduceIte, reduceCtorEq, goInt, exists_eq_left', eq_self, Int.reduceLT, Int.reduceLE, Int.reduceEq, Int.reduceNeg, Int.reduceAdd, Int.reduceSub, forall_const, ne_eq, undef, Nat.reducePow, Nat.reduceDiv, Nat.reduceMod]
    exact hQ _ _ _ rfl ⟨_, _, _, F, p, rfl, hB0, ⟨by omega, Nat.le_refl _, by omega, hF⟩, hfm⟩
end Go.Proofs.Ytfjeccaffenngaa
