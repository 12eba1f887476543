/-
  Own work. Rows of writes: what is stored, deleted, put between, cut, found by the search.
-/
import Derived.Test.YtecceimgpeookaaV1
import Derived.Lib.Bytealg
namespace Go.Proofs.Ytecceimgpeookaa
open Go X
set_option maxRecDepth 100000
attribute [local irreducible] X.Go' X.GoO X.GoR X.GoG X.GoC X.GoF X.GoFV X.GoFG X.Ex X.GoD X.GoDV X.GoDG
set_option linter.unusedVariables false
set_option linter.unusedSimpArgs false

theorem le_eq {a b : ByteArray} : (Op.bytesLess a.toList b.toList || a.toList == b.toList) = !decide (ltT b a) := by
  by_cases h : ltT b a
  · have h1 : ¬ ltT a b := ltT_asymm h
    have h2 : Op.bytesLess a.toList b.toList = false := by
      cases hq : Op.bytesLess a.toList b.toList with
      | false => rfl
      | true => exact absurd hq h1
    have h3 : a.toList ≠ b.toList := fun e => ltT_ne h (toList_inj e).symm
    rw [h2, decide_eq_true h]
    simpa using h3
  · rw [decide_eq_false h]
    rcases ltT_total h with e | e
    · subst e; simp
    · have : Op.bytesLess a.toList b.toList = true := e
      rw [this]; rfl
theorem bin_sgtr {m : Mem} {a b : ByteArray} {t : TypeId} : binE Try.prog .gtr t (.string a) (.string b) m = some (.val (.bool (decide (ltT b a))) m) := by
  rw [show decide (ltT b a) = !(Op.bytesLess a.toList b.toList || a.toList == b.toList) by rw [le_eq, Bool.not_not]]; rfl
theorem bin_sleq {m : Mem} {a b : ByteArray} {t : TypeId} : binE Try.prog .leq t (.string a) (.string b) m = some (.val (.bool (decide (¬ ltT b a))) m) := by
  rw [show decide (¬ ltT b a) = (Op.bytesLess a.toList b.toList || a.toList == b.toList) by rw [le_eq]; simp]; rfl

abbrev row5 (k : ByteArray) (s : Value) (n : Bool) (t : ByteArray) (c : Nat) : List Value := [.string k, s, .bool n, .string t, U (c : Int)]
/-- A row stands at an address. -/
structure At5 (m : Mem) (b off : Nat) (k : ByteArray) (s : Value) (n : Bool) (t : ByteArray) (c : Nat) : Prop where
  o : ∃ o, m.get b = some o ∧ o.cells[off]? = some (.string k) ∧ o.cells[off + 1]? = some s ∧ o.cells[off + 2]? = some (.bool n) ∧ o.cells[off + 2 + 1]? = some (.string t) ∧ o.cells[off + 2 + 2]? = some (U (c : Int))
  l5 : ldA m 5 (.pointer (some ⟨b, off, none⟩)) = some (.val (.agg ⟨row5 k s n t c⟩) m)
  l3 : ldA m 3 (.pointer (some ⟨b, off + 2, none⟩)) = some (.val (.agg ⟨valL n t c⟩) m)

theorem row_at {b : Nat} {m : Mem} {v : Value} {rows : List (List Value)} (h : RdS b m 5 v rows) {i : Nat} {k : ByteArray} {s : Value} {n : Bool} {t : ByteArray} {c : Nat} (hi : rows[i]? = some (row5 k s n t c)) :
    ∃ a c', v = .slice (some a) rows.length c' ∧ At5 m a.block (a.off + i * 5) k s n t c := by
  obtain ⟨p, c', rfl, hc, h⟩ := h
  obtain ⟨h1, a, o, rfl, h3, h4, h5⟩ := h i _ hi
  refine ⟨a, c', rfl, ⟨o, h4, h5 0 (by omega), h5 1 (by omega), h5 2 (by omega), h5 3 (by omega), h5 4 (by omega)⟩, ?_, ?_⟩
  · have := xload_cells (m := m) (b := a.block) (off := a.off + i * 5) (n := 5) (r := row5 k s n t c) h4 rfl (by omega) h5
    simp [ldA, this]
  · have := xload_cells (m := m) (b := a.block) (off := a.off + i * 5 + 2) (n := 3) (r := valL n t c) h4 rfl (by omega) (fun j hj => by
      have := h5 (2 + j) (by omega)
      rw [show a.off + i * 5 + 2 + j = a.off + i * 5 + (2 + j) by omega, this]
      match j, hj with
      | 0, _ => rfl
      | 1, _ => rfl
      | 2, _ => rfl)
    simp [ldA, this]


abbrev rowsW (vs : List Wr) : List (List Value) := vs.map Wr.row
abbrev RdW (b : Nat) (m : Mem) (v : Value) (vs : List Wr) : Prop := RdS b m 5 v (rowsW vs)
theorem rdW_slice {b : Nat} {m : Mem} {v : Value} {vs : List Wr} (h : RdW b m v vs) : ∃ p c, v = .slice p vs.length c := by
  obtain ⟨p, c, rfl⟩ := h.slice
  exact ⟨p, c, by simp⟩
theorem rdW_at {b : Nat} {m : Mem} {v : Value} {vs : List Wr} (h : RdW b m v vs) {i : Nat} {x : Wr} (hi : vs[i]? = some x) : ∃ a c, v = .slice (some a) vs.length c ∧ At5 m a.block (a.off + i * 5) x.key (.bool x.gone) x.num x.text x.bits := by
  obtain ⟨a, c, h1, h2⟩ := row_at h (i := i) (k := x.key) (s := .bool x.gone) (n := x.num) (t := x.text) (c := x.bits) (by simp [hi])
  exact ⟨a, c, by rw [h1]; simp, h2⟩

/-! ## Texts compared -/
theorem cb_cons {a b : UInt8} {x y : List UInt8} : Go.Lib.compareBytes (a :: x) (b :: y) = if a < b then -1 else if b < a then 1 else Go.Lib.compareBytes x y := (rfl)
theorem cb_lt : ∀ x y : List UInt8, Go.Lib.compareBytes x y < 0 ↔ Op.bytesLess x y = true
  | [], [] => by simp [Go.Lib.compareBytes, Op.bytesLess]
  | [], _ :: _ => by simp [Go.Lib.compareBytes, Op.bytesLess]
  | _ :: _, [] => by simp [Go.Lib.compareBytes, Op.bytesLess]
  | a :: x, b :: y => by
    rw [bl_cons, ← cb_lt x y, cb_cons]
    by_cases h1 : a < b
    · have := UInt8.lt_iff_toNat_lt.1 h1
      simp [h1, this]
    · have h1' : ¬ a.toNat < b.toNat := fun h => h1 (UInt8.lt_iff_toNat_lt.2 h)
      by_cases h2 : b < a
      · have hne : a ≠ b := by rintro rfl; exact UInt8.lt_irrefl _ h2
        simp [h1, h2, h1', hne]
      · have h2' : ¬ b.toNat < a.toNat := fun h => h2 (UInt8.lt_iff_toNat_lt.2 h)
        have : a = b := UInt8.toNat_inj.1 (by omega)
        subst this
        simp [UInt8.lt_irrefl]
theorem cb_eq : ∀ x y : List UInt8, Go.Lib.compareBytes x y = 0 ↔ x = y
  | [], [] => by simp [Go.Lib.compareBytes]
  | [], _ :: _ => by simp [Go.Lib.compareBytes]
  | _ :: _, [] => by simp [Go.Lib.compareBytes]
  | a :: x, b :: y => by
    rw [List.cons.injEq, ← cb_eq x y, cb_cons]
    by_cases h1 : a < b
    · have hne : a ≠ b := by rintro rfl; exact UInt8.lt_irrefl _ h1
      simp [h1, hne]
    · have h1' : ¬ a.toNat < b.toNat := fun h => h1 (UInt8.lt_iff_toNat_lt.2 h)
      by_cases h2 : b < a
      · have hne : a ≠ b := by rintro rfl; exact UInt8.lt_irrefl _ h2
        simp [h1, h2, hne]
      · have h2' : ¬ b.toNat < a.toNat := fun h => h2 (UInt8.lt_iff_toNat_lt.2 h)
        have : a = b := UInt8.toNat_inj.1 (by omega)
        subst this
        simp [UInt8.lt_irrefl]
def cmpT (a b : ByteArray) : Int := Go.Extern.BytealgCompare.cmp a b
theorem cmpT_lt {a b : ByteArray} : cmpT a b < 0 ↔ ltT a b := by
  unfold cmpT ltT
  rw [Go.Lib.cmp_eq, toList_data, toList_data]
  exact cb_lt _ _
theorem cmpT_eq {a b : ByteArray} : cmpT a b = 0 ↔ a = b := by
  unfold cmpT
  rw [Go.Lib.cmp_eq, cb_eq]
  constructor
  · intro h; exact toList_inj (by rw [toList_data, toList_data, h])
  · rintro rfl; rfl


abbrev SortW (l : List Wr) : Prop := l.Pairwise fun a b => ltT a.key b.key
theorem cmp99 {m : Mem} {a b : ByteArray} : Ca 99 [.string a, .string b] m (I (cmpT a b)) m := ⟨0, by kernel_rfl⟩
theorem cmp85 {m : Mem} {a b : ByteArray} : Ca 85 [.string a, .string b] m (I (cmpT a b)) m := by
  refine callX_of (call_go (F := _) rfl rfl fun Q hQ => ?_)
  simp only [symA, go_opsd, symB, wantedX, X.put, X.look, Arg.ev, keepOf, restrict, evs, evO, initEnv, xres, tup, noTup, cls, quiet, Nat.reduceAdd, Nat.reduceEqDiff, ↓reduceIte, reduceCtorEq, goInt, exists_eq_left', eq_self, Int.reduceLT, Int.reduceLE, Int.reduceEq, Int.reduceNeg, Int.reduceAdd, Int.reduceSub, forall_const, ne_eq, undef, Nat.reducePow, Nat.reduceDiv, Nat.reduceMod, goR_call cmp99]
  exact hQ _ _ _ rfl ⟨rfl, rfl⟩
theorem cmp67 {m : Mem} {a b : ByteArray} : Ca 67 [.string a, .string b] m (I (cmpT a b)) m := by
  refine callX_of (call_go (F := _) rfl rfl fun Q hQ => ?_)
  simp only [symA, go_opsd, symB, wantedX, X.put, X.look, Arg.ev, keepOf, restrict, evs, evO, initEnv, xres, tup, noTup, cls, quiet, Nat.reduceAdd, Nat.reduceEqDiff, ↓reduceIte, reduceCtorEq, goInt, exists_eq_left', eq_self, Int.reduceLT, Int.reduceLE, Int.reduceEq, Int.reduceNeg, Int.reduceAdd, Int.reduceSub, forall_const, ne_eq, undef, Nat.reducePow, Nat.reduceDiv, Nat.reduceMod, goR_call cmp85]
  exact hQ _ _ _ rfl ⟨rfl, rfl⟩
theorem cmp66 {m : Mem} {k : ByteArray} {x : Wr} : ∃ m', Ca 66 [.agg ⟨row5 x.key (.bool x.gone) x.num x.text x.bits⟩, .string k] m (I (cmpT x.key k)) m' ∧ Nx m m' := by
  refine ⟨m.push { cells := x.row, rw := true, spare := none, kin := [] }, callX_of (call_go (F := _) rfl rfl fun Q hQ => ?_), .push⟩
  simp only [symA, go_opsd, symB, wantedX, X.put, X.look, Arg.ev, keepOf, restrict, evs, evO, initEnv, xres, tup, noTup, cls, quiet, Nat.reduceAdd, Nat.reduceEqDiff, ↓reduceIte, reduceCtorEq, goInt, exists_eq_left', eq_self, Int.reduceLT, Int.reduceLE, Int.reduceEq, Int.reduceNeg, Int.reduceAdd, Int.reduceSub, forall_const, ne_eq, undef, Nat.reducePow, Nat.reduceDiv, Nat.reduceMod, goR_call cmp67]
  exact hQ _ _ _ rfl ⟨rfl, rfl⟩

/-! ## A key among writes -/
/-- The writes below a key, its own one, those above it. -/
structure CutW (k : ByteArray) (W A : List Wr) (o : Option Wr) (B : List Wr) : Prop where
  eq : W = A ++ (o.toList ++ B)
  lo : ∀ x ∈ A, ltT x.key k
  mid : ∀ x, o = some x → x.key = k
  hi : ∀ x ∈ B, ltT k x.key

theorem conv_iu {m : Mem} {n : Int} : convE Try.prog 3 124 m (I n) = some (.val (U (IntKind.u64.wrap n)) m) := by kernel_rfl
theorem conv_uI {m : Mem} {n : Int} : convE Try.prog 124 3 m (U n) = some (.val (I (IntKind.i64.wrap n)) m) := by kernel_rfl
theorem bin_shr1 {m : Mem} {n : Int} : binE Try.prog .shr 124 (U n) (U 1) m = some (.val (U (n.fdiv 2)) m) := by kernel_rfl
theorem rd_up {b b' : Nat} {m : Mem} {size : Nat} {v : Value} {rows : List (List Value)} (h : RdS b m size v rows) (hb : b ≤ b') : RdS b' m size v rows := by
  obtain ⟨p, c, h1, h2, h3⟩ := h
  refine ⟨p, c, h1, h2, fun i r hr => ?_⟩
  obtain ⟨k1, a, o, k2, k3, k4⟩ := h3 i r hr
  exact ⟨k1, a, o, k2, Nat.lt_of_lt_of_le k3 hb, k4⟩
theorem sortW_lt {vs : List Wr} (hs : SortW vs) {i j : Nat} {x y : Wr} (hij : i < j) (hx : vs[i]? = some x) (hy : vs[j]? = some y) : ltT x.key y.key := by
  obtain ⟨h1, rfl⟩ := List.getElem?_eq_some_iff.1 hx
  obtain ⟨h2, rfl⟩ := List.getElem?_eq_some_iff.1 hy
  exact List.pairwise_iff_getElem.1 hs i j h1 h2 hij
theorem cut_of {W : List Wr} {k : ByteArray} {i : Nat} (hs : SortW W) (hi : i ≤ W.length) (hlo : ∀ (d : Nat) (x : Wr), d < i → W[d]? = some x → ltT x.key k) (hhi : ∀ (d : Nat) (x : Wr), i ≤ d → W[d]? = some x → ¬ ltT x.key k) :
    ∃ A o B, CutW k W A o B ∧ i = A.length ∧ (o.isSome = true ↔ ∃ x, W[i]? = some x ∧ x.key = k) := by
  have hA : ∀ x ∈ W.take i, ltT x.key k := fun x hx => by
    obtain ⟨d, hd⟩ := List.mem_iff_getElem?.1 hx
    rw [List.getElem?_take] at hd
    split at hd
    · rename_i h; exact hlo d x h hd
    · cases hd
  by_cases h : ∃ x, W[i]? = some x ∧ x.key = k
  · obtain ⟨x, hx, hk⟩ := h
    obtain ⟨hil, hxe⟩ := List.getElem?_eq_some_iff.1 hx
    have hd : W.drop i = x :: W.drop (i + 1) := by rw [← hxe]; exact List.drop_eq_getElem_cons hil
    refine ⟨W.take i, some x, W.drop (i + 1), ⟨by rw [Option.toList_some, List.singleton_append, ← hd, List.take_append_drop], hA, fun y hy => by cases hy; exact hk, fun y hy => ?_⟩, by rw [List.length_take]; omega, by simp [hx, hk]⟩
    obtain ⟨d, hd⟩ := List.mem_iff_getElem?.1 hy
    rw [List.getElem?_drop] at hd
    have := sortW_lt hs (by omega) hx hd
    rwa [hk] at this
  · refine ⟨W.take i, none, W.drop i, ⟨by rw [Option.toList_none, List.nil_append, List.take_append_drop], hA, fun y hy => (by cases hy), fun y hy => ?_⟩, by rw [List.length_take]; omega, Iff.intro (fun h' => by cases h') (fun h' => absurd h' h)⟩
    obtain ⟨d, hd⟩ := List.mem_iff_getElem?.1 hy
    rw [List.getElem?_drop] at hd
    have h0 := hhi (i + d) y (by omega) hd
    rcases ltT_total h0 with he | he
    · exfalso
      cases d with
      | zero => exact h ⟨y, hd, he⟩
      | succ d =>
        obtain ⟨z, hz⟩ : ∃ z, W[i]? = some z := ⟨_, List.getElem?_eq_getElem (by have := (List.getElem?_eq_some_iff.1 hd).1; omega)⟩
        have h1 := sortW_lt hs (by omega) hz hd
        rw [he] at h1
        exact hhi i z (Nat.le_refl _) hz h1
    · exact he

theorem search_spec {b : Nat} {m : Mem} {v : Value} {vs : List Wr} {k : ByteArray} (h : RdW b m v vs) (hs : SortW vs) (hl : vs.length ≤ 1000000) (hb : b ≤ m.next) :
    ∃ (A : List Wr) (o : Option Wr) (B : List Wr) (m' : Mem), Ca 65 [v, .string k, .func (.func 66) #[] #[]] m (.tuple #[I (A.length : Int), .bool o.isSome]) m' ∧ CutW k vs A o B ∧ Nx m m' := by
  have key : Wc 65 [v, .string k, .func (.func 66) #[] #[]] m fun r m' => ∃ (A : List Wr) (o : Option Wr) (B : List Wr), r = .tuple #[I (A.length : Int), .bool o.isSome] ∧ CutW k vs A o B ∧ Nx m m' := by
    refine call_go (F := _) rfl rfl fun Q hQ => ?_
    obtain ⟨p, c, rfl⟩ := rdW_slice h
    simp only [symA, go_opsd, symB, wantedX, X.put, X.look, Arg.ev, keepOf, restrict, evs, evO, initEnv, xres, tup, noTup, cls, quiet, Nat.reduceAdd, Nat.reduceEqDiff, ↓reduceIte, reduceCtorEq, goInt, exists_eq_left', eq_self, Int.reduceLT, Int.reduceLE, Int.reduceEq, Int.reduceNeg, Int.reduceAdd, Int.reduceSub, forall_const, ne_eq, undef, Nat.reducePow, Nat.reduceDiv, Nat.reduceMod]
    refine loop_go (fun q e m' => Nx m m' ∧ ∃ i j : Nat, i ≤ j ∧ j ≤ vs.length ∧ q = j - i ∧ (∀ (d : Nat) (x : Wr), d < i → vs[d]? = some x → ltT x.key k) ∧ (∀ (d : Nat) (x : Wr), j ≤ d → vs[d]? = some x → ¬ ltT x.key k) ∧
      e = [(0, .slice p vs.length c), (1, .string k), (2, .func (.func 66) #[] #[]), (8, I vs.length), (9, I i), (10, I j)]) vs.length ⟨.refl, 0, vs.length, by omega, by omega, by omega, by intros; omega, (fun d x hd hx => by rw [List.getElem?_eq_none (by omega)] at hx; cases hx), rfl⟩ ?_
    rintro q e m1 N' B' hN hB ⟨hnx, i, j, hij, hj, rfl, hlo, hhi, rfl⟩
    have hr := h.fr hnx hb (fun _ h => h.elim)
    by_cases hlt : i < j
    · have hlt' : (i : Int) < (j : Int) := by omega
      obtain ⟨x, hx⟩ : ∃ x, vs[(i + j) / 2]? = some x := ⟨_, List.getElem?_eq_getElem (by omega)⟩
      obtain ⟨a, c', hv, _, l5, _⟩ := rdW_at hr hx
      cases hv
      obtain ⟨m2, k1, k2⟩ := cmp66 (m := m1) (x := x) (k := k)
      have w1 : IntKind.i64.wrap ((i : Int) + (j : Int)) = ((i + j : Nat) : Int) := by rw [wrap_i64 (by omega) (by omega)]; omega
      have w2 : IntKind.u64.wrap ((i + j : Nat) : Int) = ((i + j : Nat) : Int) := wrap_u64 (by omega) (by omega)
      have w3 : (((i + j : Nat) : Int)).fdiv 2 = (((i + j) / 2 : Nat) : Int) := by rw [Int.fdiv_eq_ediv_of_nonneg _ (by omega)]; omega
      have w4 : IntKind.i64.wrap (((i + j) / 2 : Nat) : Int) = (((i + j) / 2 : Nat) : Int) := wrap_i64 (by omega) (by omega)
      have w5 : IntKind.i64.wrap ((((i + j) / 2 : Nat) : Int) + 1) = (((i + j) / 2 + 1 : Nat) : Int) := by rw [wrap_i64 (by omega) (by omega)]; omega
      have hmid : (i + j) / 2 < vs.length := by omega
      have f2 : Nx m m2 := hnx.comp k2 fun _ _ h => h
      by_cases hxt : cmpT x.key k < 0
      · have hxk := cmpT_lt.1 hxt
        simp only [symA, go_opsd, symB, wantedX, X.put, X.look, Arg.ev, keepOf, restrict, evs, evO, initEnv, xres, tup, noTup, cls, quiet, Nat.reduceAdd, Nat.reduceEqDiff, ↓reduceIte, reduceCtorEq, goInt, exists_eq_left', eq_self, Int.reduceLT, Int.reduceLE, Int.reduceEq, Int.reduceNeg, Int.reduceAdd, Int.reduceSub, forall_const, ne_eq, undef, Nat.reducePow, Nat.reduceDiv, Nat.reduceMod, hlt', w1, conv_iu, w2, bin_shr1, w3, conv_uI, w4, w5, hmid, l5, goR_call k1, hxt]
        refine hN _ _ (j - ((i + j) / 2 + 1)) (by omega) ⟨f2, (i + j) / 2 + 1, j, by omega, hj, rfl, fun d y hd hy => ?_, hhi, rfl⟩
        rcases Nat.lt_or_ge d ((i + j) / 2) with h1 | h1
        · exact ltT_trans (sortW_lt hs h1 hy hx) hxk
        · have : d = (i + j) / 2 := by omega
          subst this
          rw [hx] at hy; cases hy; exact hxk
      · have hxk : ¬ ltT x.key k := fun q => hxt (cmpT_lt.2 q)
        simp only [symA, go_opsd, symB, wantedX, X.put, X.look, Arg.ev, keepOf, restrict, evs, evO, initEnv, xres, tup, noTup, cls, quiet, Nat.reduceAdd, Nat.reduceEqDiff, ↓reduceIte, reduceCtorEq, goInt, exists_eq_left', eq_self, Int.reduceLT, Int.reduceLE, Int.reduceEq, Int.reduceNeg, Int.reduceAdd, Int.reduceSub, forall_const, ne_eq, undef, Nat.reducePow, Nat.reduceDiv, Nat.reduceMod, hlt', w1, conv_iu, w2, bin_shr1, w3, conv_uI, w4, w5, hmid, l5, goR_call k1, hxt]
        refine hN _ _ ((i + j) / 2 - i) (by omega) ⟨f2, i, (i + j) / 2, by omega, by omega, rfl, hlo, fun d y hd hy => ?_, rfl⟩
        rcases Nat.lt_or_ge ((i + j) / 2) d with h1 | h1
        · exact fun q => hxk (ltT_trans (sortW_lt hs h1 hx hy) q)
        · have : d = (i + j) / 2 := by omega
          subst this
          rw [hx] at hy; cases hy; exact hxk
    · have hlt' : ¬ (i : Int) < (j : Int) := by omega
      have hji : i = j := by omega
      subst hji
      simp only [symA, go_opsd, symB, wantedX, X.put, X.look, Arg.ev, keepOf, restrict, evs, evO, initEnv, xres, tup, noTup, cls, quiet, Nat.reduceAdd, Nat.reduceEqDiff, ↓reduceIte, reduceCtorEq, goInt, exists_eq_left', eq_self, Int.reduceLT, Int.reduceLE, Int.reduceEq, Int.reduceNeg, Int.reduceAdd, Int.reduceSub, forall_const, ne_eq, undef, Nat.reducePow, Nat.reduceDiv, Nat.reduceMod, hlt']
      refine hB _ _ _ ?_
      obtain ⟨A, o, B, hc, hiA, ho⟩ := cut_of hs hj hlo hhi
      by_cases hi : i < vs.length
      · have hi' : (i : Int) < (vs.length : Int) := by omega
        obtain ⟨x, hx⟩ : ∃ x, vs[i]? = some x := ⟨_, List.getElem?_eq_getElem hi⟩
        obtain ⟨a, c', hv, _, l5, _⟩ := rdW_at hr hx
        cases hv
        obtain ⟨m2, k1, k2⟩ := cmp66 (m := m1) (x := x) (k := k)
        have f2 : Nx m m2 := hnx.comp k2 fun _ _ h => h
        by_cases hxt : cmpT x.key k = 0
        · have e : o.isSome = true := ho.2 ⟨x, hx, cmpT_eq.1 hxt⟩
          simp only [symA, go_opsd, symB, wantedX, X.put, X.look, Arg.ev, keepOf, restrict, evs, evO, initEnv, xres, tup, noTup, cls, quiet, Nat.reduceAdd, Nat.reduceEqDiff, ↓reduceIte, reduceCtorEq, goInt, exists_eq_left', eq_self, Int.reduceLT, Int.reduceLE, Int.reduceEq, Int.reduceNeg, Int.reduceAdd, Int.reduceSub, forall_const, ne_eq, undef, Nat.reducePow, Nat.reduceDiv, Nat.reduceMod, hi', hi, l5, goR_call k1, hxt]
          exact hQ _ _ _ rfl ⟨A, o, B, by rw [e, hiA]; rfl, hc, f2⟩
        · have e : o.isSome = false := by
            cases hq : o.isSome with
            | false => rfl
            | true => obtain ⟨y, hy, hk⟩ := ho.1 hq; rw [hx] at hy; cases hy; exact absurd (cmpT_eq.2 hk) hxt
          simp only [symA, go_opsd, symB, wantedX, X.put, X.look, Arg.ev, keepOf, restrict, evs, evO, initEnv, xres, tup, noTup, cls, quiet, Nat.reduceAdd, Nat.reduceEqDiff, ↓reduceIte, reduceCtorEq, goInt, exists_eq_left', eq_self, Int.reduceLT, Int.reduceLE, Int.reduceEq, Int.reduceNeg, Int.reduceAdd, Int.reduceSub, forall_const, ne_eq, undef, Nat.reducePow, Nat.reduceDiv, Nat.reduceMod, hi', hi, l5, goR_call k1, hxt]
          exact hQ _ _ _ rfl ⟨A, o, B, by rw [e, hiA]; rfl, hc, f2⟩
      · have hi' : ¬ (i : Int) < (vs.length : Int) := by omega
        have e : o.isSome = false := by
          cases hq : o.isSome with
          | false => rfl
          | true => obtain ⟨y, hy, hk⟩ := ho.1 hq; rw [List.getElem?_eq_none (by omega)] at hy; cases hy
        simp only [symA, go_opsd, symB, wantedX, X.put, X.look, Arg.ev, keepOf, restrict, evs, evO, initEnv, xres, tup, noTup, cls, quiet, Nat.reduceAdd, Nat.reduceEqDiff, ↓reduceIte, reduceCtorEq, goInt, exists_eq_left', eq_self, Int.reduceLT, Int.reduceLE, Int.reduceEq, Int.reduceNeg, Int.reduceAdd, Int.reduceSub, forall_const, ne_eq, undef, Nat.reducePow, Nat.reduceDiv, Nat.reduceMod, hi']
        exact hQ _ _ _ rfl ⟨A, o, B, by rw [e, hiA]; rfl, hc, hnx⟩
  obtain ⟨r, m', hc, A, o, B, rfl, h1, h2⟩ := key
  exact ⟨A, o, B, m', hc, h1, h2⟩

end Go.Proofs.Ytecceimgpeookaa
