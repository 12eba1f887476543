/-
  Own work. A key among entries: the search, what is found, the write that leads from one to the other.
-/
import Derived.Test.YtlldfkapaeidoaaD6
import Derived.Lib.Bytealg
namespace Go.Proofs.Ytlldfkapaeidoaa
open Go X
set_option maxRecDepth 100000
set_option linter.unusedVariables false
set_option linter.unusedSimpArgs false

/-! ## Texts compared -/
theorem cb_cons {a b : UInt8} {x y : List UInt8} : Go.Lib.compareBytes (a :: x) (b :: y) = if a < b then -1 else if b < a then 1 else Go.Lib.compareBytes x y := (rfl)
theorem cb_lt : ∀ x y : List UInt8, Go.Lib.compareBytes x y < 0 ↔ Op.bytesLess x y = true
  | [], [] => by simp [Go.Lib.compareBytes, Op.bytesLess]
  | [], _ :: _ => by simp [Go.Lib.compareBytes, Op.bytesLess]
  | _ :: _, [] => by simp [Go.Lib.compareBytes, Op.bytesLess]
  | a :: x, b :: y => by
    rw [bl_cons, ← cb_lt x y, cb_cons]
    by_cases h1 : a < b
    · have := UInt8.lt_iff_toNat_lt.1 h1
      simp [h1, this]
    · have h1' : ¬ a.toNat < b.toNat := fun h => h1 (UInt8.lt_iff_toNat_lt.2 h)
      by_cases h2 : b < a
      · have hne : a ≠ b := by rintro rfl; exact UInt8.lt_irrefl _ h2
        simp [h1, h2, h1', hne]
      · have h2' : ¬ b.toNat < a.toNat := fun h => h2 (UInt8.lt_iff_toNat_lt.2 h)
        have : a = b := UInt8.toNat_inj.1 (by omega)
        subst this
        simp [UInt8.lt_irrefl]
theorem cb_eq : ∀ x y : List UInt8, Go.Lib.compareBytes x y = 0 ↔ x = y
  | [], [] => by simp [Go.Lib.compareBytes]
  | [], _ :: _ => by simp [Go.Lib.compareBytes]
  | _ :: _, [] => by simp [Go.Lib.compareBytes]
  | a :: x, b :: y => by
    rw [List.cons.injEq, ← cb_eq x y, cb_cons]
    by_cases h1 : a < b
    · have hne : a ≠ b := by rintro rfl; exact UInt8.lt_irrefl _ h1
      simp [h1, hne]
    · have h1' : ¬ a.toNat < b.toNat := fun h => h1 (UInt8.lt_iff_toNat_lt.2 h)
      by_cases h2 : b < a
      · have hne : a ≠ b := by rintro rfl; exact UInt8.lt_irrefl _ h2
        simp [h1, h2, hne]
      · have h2' : ¬ b.toNat < a.toNat := fun h => h2 (UInt8.lt_iff_toNat_lt.2 h)
        have : a = b := UInt8.toNat_inj.1 (by omega)
        subst this
        simp [UInt8.lt_irrefl]
def cmpT (a b : ByteArray) : Int := Go.Extern.BytealgCompare.cmp a b
theorem cmpT_lt {a b : ByteArray} : cmpT a b < 0 ↔ ltT a b := by
  unfold cmpT ltT
  rw [Go.Lib.cmp_eq, toList_data, toList_data]
  exact cb_lt _ _
theorem cmpT_eq {a b : ByteArray} : cmpT a b = 0 ↔ a = b := by
  unfold cmpT
  rw [Go.Lib.cmp_eq, cb_eq]
  constructor
  · intro h; exact toList_inj (by rw [toList_data, toList_data, h])
  · rintro rfl; rfl

theorem cmp74 {m : Mem} {a b : ByteArray} : Ca 74 [.string a, .string b] m (I (cmpT a b)) m := ⟨0, by kernel_rfl⟩
theorem cmp66 {m : Mem} {a b : ByteArray} : Ca 66 [.string a, .string b] m (I (cmpT a b)) m := by
  refine callX_of (call_go (F := _) rfl rfl fun Q hQ => ?_)
  simp only [symA, go_opsd, symB, wantedX, X.put, X.look, Arg.ev, keepOf, restrict, evs, evO, initEnv, xres, tup, noTup, cls, quiet, Nat.reduceAdd, Nat.reduceEqDiff, ↓reduceIte, reduceCtorEq, goInt, exists_eq_left', eq_self, Int.reduceLT, Int.reduceLE, Int.reduceEq, Int.reduceNeg, Int.reduceAdd, Int.reduceSub, forall_const, ne_eq, undef, Nat.reducePow, Nat.reduceDiv, Nat.reduceMod, goR_call cmp74]
  exact hQ _ _ _ rfl ⟨rfl, rfl⟩
theorem cmp51 {m : Mem} {a b : ByteArray} : Ca 51 [.string a, .string b] m (I (cmpT a b)) m := by
  refine callX_of (call_go (F := _) rfl rfl fun Q hQ => ?_)
  simp only [symA, go_opsd, symB, wantedX, X.put, X.look, Arg.ev, keepOf, restrict, evs, evO, initEnv, xres, tup, noTup, cls, quiet, Nat.reduceAdd, Nat.reduceEqDiff, ↓reduceIte, reduceCtorEq, goInt, exists_eq_left', eq_self, Int.reduceLT, Int.reduceLE, Int.reduceEq, Int.reduceNeg, Int.reduceAdd, Int.reduceSub, forall_const, ne_eq, undef, Nat.reducePow, Nat.reduceDiv, Nat.reduceMod, goR_call cmp66]
  exact hQ _ _ _ rfl ⟨rfl, rfl⟩
theorem cmp50 {m : Mem} {k : ByteArray} {x : Ent} : ∃ m', Ca 50 [.agg ⟨row5 x.key (I x.seq) x.num x.text x.bits⟩, .string k] m (I (cmpT x.key k)) m' ∧ Nx m m' := by
  refine ⟨m.push { cells := x.row, rw := true, spare := none, kin := [] }, callX_of (call_go (F := _) rfl rfl fun Q hQ => ?_), .push⟩
  simp only [symA, go_opsd, symB, wantedX, X.put, X.look, Arg.ev, keepOf, restrict, evs, evO, initEnv, xres, tup, noTup, cls, quiet, Nat.reduceAdd, Nat.reduceEqDiff, ↓reduceIte, reduceCtorEq, goInt, exists_eq_left', eq_self, Int.reduceLT, Int.reduceLE, Int.reduceEq, Int.reduceNeg, Int.reduceAdd, Int.reduceSub, forall_const, ne_eq, undef, Nat.reducePow, Nat.reduceDiv, Nat.reduceMod, goR_call cmp51]
  exact hQ _ _ _ rfl ⟨rfl, rfl⟩

/-! ## The search -/
theorem conv_iu {m : Mem} {n : Int} : convE Try.prog 3 78 m (I n) = some (.val (U (IntKind.u64.wrap n)) m) := by kernel_rfl
theorem conv_uI {m : Mem} {n : Int} : convE Try.prog 78 3 m (U n) = some (.val (I (IntKind.i64.wrap n)) m) := by kernel_rfl
theorem bin_shr1 {m : Mem} {n : Int} : binE Try.prog .shr 78 (U n) (U 1) m = some (.val (U (n.fdiv 2)) m) := by kernel_rfl

theorem rd_up' {b b' : Nat} {m : Mem} {size : Nat} {v : Value} {rows : List (List Value)} (h : RdS b m size v rows) (hb : b ≤ b') : RdS b' m size v rows := by
  obtain ⟨p, c, h1, h2, h3⟩ := h
  refine ⟨p, c, h1, h2, fun i r hr => ?_⟩
  obtain ⟨k1, a, o, k2, k3, k4⟩ := h3 i r hr
  exact ⟨k1, a, o, k2, Nat.lt_of_lt_of_le k3 hb, k4⟩
theorem sortE_lt {vs : List Ent} (hs : SortE vs) {i j : Nat} {x y : Ent} (hij : i < j) (hx : vs[i]? = some x) (hy : vs[j]? = some y) : ltT x.key y.key := by
  obtain ⟨h1, rfl⟩ := List.getElem?_eq_some_iff.1 hx
  obtain ⟨h2, rfl⟩ := List.getElem?_eq_some_iff.1 hy
  exact List.pairwise_iff_getElem.1 hs i j h1 h2 hij

theorem search_spec {b : Nat} {m : Mem} {v : Value} {vs : List Ent} {k : ByteArray} (h : RdE b m v vs) (hs : SortE vs) (hl : vs.length ≤ 1000000) (hb : b ≤ m.next) :
    ∃ (i : Nat) (fd : Bool) (m' : Mem), Ca 49 [v, .string k, .func (.func 50) #[] #[]] m (.tuple #[I i, .bool fd]) m' ∧ (fd = true → ∃ x, vs[i]? = some x ∧ x.key = k) ∧ (fd = false → ∀ x ∈ vs, x.key ≠ k) ∧ Nx m m' := by
  have key : Wc 49 [v, .string k, .func (.func 50) #[] #[]] m fun r m' => ∃ (i : Nat) (fd : Bool), r = .tuple #[I i, .bool fd] ∧ (fd = true → ∃ x, vs[i]? = some x ∧ x.key = k) ∧ (fd = false → ∀ x ∈ vs, x.key ≠ k) ∧ Nx m m' := by
    refine call_go (F := _) rfl rfl fun Q hQ => ?_
    obtain ⟨p, c, rfl⟩ := rdE_slice h
    simp only [symA, go_opsd, symB, wantedX, X.put, X.look, Arg.ev, keepOf, restrict, evs, evO, initEnv, xres, tup, noTup, cls, quiet, Nat.reduceAdd, Nat.reduceEqDiff, ↓reduceIte, reduceCtorEq, goInt, exists_eq_left', eq_self, Int.reduceLT, Int.reduceLE, Int.reduceEq, Int.reduceNeg, Int.reduceAdd, Int.reduceSub, forall_const, ne_eq, undef, Nat.reducePow, Nat.reduceDiv, Nat.reduceMod]
    refine loop_go (fun q e m' => Nx m m' ∧ ∃ i j : Nat, i ≤ j ∧ j ≤ vs.length ∧ q = j - i ∧ (∀ (d : Nat) (x : Ent), d < i → vs[d]? = some x → ltT x.key k) ∧ (∀ (d : Nat) (x : Ent), j ≤ d → vs[d]? = some x → ¬ ltT x.key k) ∧
      e = [(0, .slice p vs.length c), (1, .string k), (2, .func (.func 50) #[] #[]), (8, I vs.length), (9, I i), (10, I j)]) vs.length ⟨.refl, 0, vs.length, by omega, by omega, by omega, by intros; omega, (fun d x hd hx => by rw [List.getElem?_eq_none (by omega)] at hx; cases hx), rfl⟩ ?_
    rintro q e m1 N' B' hN hB ⟨hnx, i, j, hij, hj, rfl, hlo, hhi, rfl⟩
    have hr := h.fr hnx hb (fun _ h => h.elim)
    by_cases hlt : i < j
    · have hlt' : (i : Int) < (j : Int) := by omega
      obtain ⟨x, hx⟩ : ∃ x, vs[(i + j) / 2]? = some x := ⟨_, List.getElem?_eq_getElem (by omega)⟩
      obtain ⟨a, c', hv, _, l5, _⟩ := rdE_at hr hx
      cases hv
      obtain ⟨m2, k1, k2⟩ := cmp50 (m := m1) (x := x) (k := k)
      have w1 : IntKind.i64.wrap ((i : Int) + (j : Int)) = ((i + j : Nat) : Int) := by rw [wrap_i64 (by omega) (by omega)]; omega
      have w2 : IntKind.u64.wrap ((i + j : Nat) : Int) = ((i + j : Nat) : Int) := wrap_u64 (by omega) (by omega)
      have w3 : (((i + j : Nat) : Int)).fdiv 2 = (((i + j) / 2 : Nat) : Int) := by rw [Int.fdiv_eq_ediv_of_nonneg _ (by omega)]; omega
      have w4 : IntKind.i64.wrap (((i + j) / 2 : Nat) : Int) = (((i + j) / 2 : Nat) : Int) := wrap_i64 (by omega) (by omega)
      have w5 : IntKind.i64.wrap ((((i + j) / 2 : Nat) : Int) + 1) = (((i + j) / 2 + 1 : Nat) : Int) := by rw [wrap_i64 (by omega) (by omega)]; omega
      have hmid : (i + j) / 2 < vs.length := by omega
      have f2 : Nx m m2 := hnx.comp k2 fun _ _ h => h
      by_cases hxt : cmpT x.key k < 0
      · have hxk := cmpT_lt.1 hxt
        simp only [symA, go_opsd, symB, wantedX, X.put, X.look, Arg.ev, keepOf, restrict, evs, evO, initEnv, xres, tup, noTup, cls, quiet, Nat.reduceAdd, Nat.reduceEqDiff, ↓reduceIte, reduceCtorEq, goInt, exists_eq_left', eq_self, Int.reduceLT, Int.reduceLE, Int.reduceEq, Int.reduceNeg, Int.reduceAdd, Int.reduceSub, forall_const, ne_eq, undef, Nat.reducePow, Nat.reduceDiv, Nat.reduceMod, hlt', w1, conv_iu, w2, bin_shr1, w3, conv_uI, w4, w5, hmid, l5, goR_call k1, hxt]
        refine hN _ _ (j - ((i + j) / 2 + 1)) (by omega) ⟨f2, (i + j) / 2 + 1, j, by omega, hj, rfl, fun d y hd hy => ?_, hhi, rfl⟩
        rcases Nat.lt_or_ge d ((i + j) / 2) with h1 | h1
        · exact ltT_trans (sortE_lt hs h1 hy hx) hxk
        · have : d = (i + j) / 2 := by omega
          subst this
          rw [hx] at hy; cases hy; exact hxk
      · have hxk : ¬ ltT x.key k := fun q => hxt (cmpT_lt.2 q)
        simp only [symA, go_opsd, symB, wantedX, X.put, X.look, Arg.ev, keepOf, restrict, evs, evO, initEnv, xres, tup, noTup, cls, quiet, Nat.reduceAdd, Nat.reduceEqDiff, ↓reduceIte, reduceCtorEq, goInt, exists_eq_left', eq_self, Int.reduceLT, Int.reduceLE, Int.reduceEq, Int.reduceNeg, Int.reduceAdd, Int.reduceSub, forall_const, ne_eq, undef, Nat.reducePow, Nat.reduceDiv, Nat.reduceMod, hlt', w1, conv_iu, w2, bin_shr1, w3, conv_uI, w4, w5, hmid, l5, goR_call k1, hxt]
        refine hN _ _ ((i + j) / 2 - i) (by omega) ⟨f2, i, (i + j) / 2, by omega, by omega, rfl, hlo, fun d y hd hy => ?_, rfl⟩
        rcases Nat.lt_or_ge ((i + j) / 2) d with h1 | h1
        · exact fun q => hxk (ltT_trans (sortE_lt hs h1 hx hy) q)
        · have : d = (i + j) / 2 := by omega
          subst this
          rw [hx] at hy; cases hy; exact hxk
    · have hlt' : ¬ (i : Int) < (j : Int) := by omega
      have hji : i = j := by omega
      subst hji
      simp only [symA, go_opsd, symB, wantedX, X.put, X.look, Arg.ev, keepOf, restrict, evs, evO, initEnv, xres, tup, noTup, cls, quiet, Nat.reduceAdd, Nat.reduceEqDiff, ↓reduceIte, reduceCtorEq, goInt, exists_eq_left', eq_self, Int.reduceLT, Int.reduceLE, Int.reduceEq, Int.reduceNeg, Int.reduceAdd, Int.reduceSub, forall_const, ne_eq, undef, Nat.reducePow, Nat.reduceDiv, Nat.reduceMod, hlt']
      refine hB _ _ _ ?_
      by_cases hi : i < vs.length
      · have hi' : (i : Int) < (vs.length : Int) := by omega
        obtain ⟨x, hx⟩ : ∃ x, vs[i]? = some x := ⟨_, List.getElem?_eq_getElem hi⟩
        obtain ⟨a, c', hv, _, l5, _⟩ := rdE_at hr hx
        cases hv
        obtain ⟨m2, k1, k2⟩ := cmp50 (m := m1) (x := x) (k := k)
        have f2 : Nx m m2 := hnx.comp k2 fun _ _ h => h
        by_cases hxt : cmpT x.key k = 0
        · simp only [symA, go_opsd, symB, wantedX, X.put, X.look, Arg.ev, keepOf, restrict, evs, evO, initEnv, xres, tup, noTup, cls, quiet, Nat.reduceAdd, Nat.reduceEqDiff, ↓reduceIte, reduceCtorEq, goInt, exists_eq_left', eq_self, Int.reduceLT, Int.reduceLE, Int.reduceEq, Int.reduceNeg, Int.reduceAdd, Int.reduceSub, forall_const, ne_eq, undef, Nat.reducePow, Nat.reduceDiv, Nat.reduceMod, hi', hi, l5, goR_call k1, hxt]
          exact hQ _ _ _ rfl ⟨i, true, rfl, fun _ => ⟨x, hx, cmpT_eq.1 hxt⟩, (fun h => by cases h), f2⟩
        · have hne : x.key ≠ k := fun q => hxt (cmpT_eq.2 q)
          have hnone : ∀ y ∈ vs, y.key ≠ k := by
            intro y hy e
            obtain ⟨d, hd⟩ := List.mem_iff_getElem?.1 hy
            rcases Nat.lt_trichotomy d i with h1 | h1 | h1
            · exact ltT_ne (hlo d y h1 hd) e
            · subst h1; rw [hx] at hd; cases hd; exact hne e
            · have h2 := sortE_lt hs h1 hx hd
              rw [e] at h2
              exact hhi i x (Nat.le_refl _) hx h2
          simp only [symA, go_opsd, symB, wantedX, X.put, X.look, Arg.ev, keepOf, restrict, evs, evO, initEnv, xres, tup, noTup, cls, quiet, Nat.reduceAdd, Nat.reduceEqDiff, ↓reduceIte, reduceCtorEq, goInt, exists_eq_left', eq_self, Int.reduceLT, Int.reduceLE, Int.reduceEq, Int.reduceNeg, Int.reduceAdd, Int.reduceSub, forall_const, ne_eq, undef, Nat.reducePow, Nat.reduceDiv, Nat.reduceMod, hi', hi, l5, goR_call k1, hxt]
          exact hQ _ _ _ rfl ⟨i, false, rfl, (fun h => by cases h), fun _ => hnone, f2⟩
      · have hi' : ¬ (i : Int) < (vs.length : Int) := by omega
        have hnone : ∀ y ∈ vs, y.key ≠ k := by
          intro y hy e
          obtain ⟨d, hd⟩ := List.mem_iff_getElem?.1 hy
          have hd' := (List.getElem?_eq_some_iff.1 hd).1
          exact ltT_ne (hlo d y (by omega) hd) e
        simp only [symA, go_opsd, symB, wantedX, X.put, X.look, Arg.ev, keepOf, restrict, evs, evO, initEnv, xres, tup, noTup, cls, quiet, Nat.reduceAdd, Nat.reduceEqDiff, ↓reduceIte, reduceCtorEq, goInt, exists_eq_left', eq_self, Int.reduceLT, Int.reduceLE, Int.reduceEq, Int.reduceNeg, Int.reduceAdd, Int.reduceSub, forall_const, ne_eq, undef, Nat.reducePow, Nat.reduceDiv, Nat.reduceMod, hi']
        exact hQ _ _ _ rfl ⟨i, false, rfl, (fun h => by cases h), fun _ => hnone, hnx⟩
  obtain ⟨r, m', hc, i, fd, rfl, h1, h2, h3⟩ := key
  exact ⟨i, fd, m', hc, h1, h2, h3⟩

/-! ## What is found -/
def zeroE : Ent := ⟨.empty, 0, false, .empty, 0⟩
def zeroW : Wr := ⟨.empty, false, false, .empty, 0⟩
abbrev ZW : List Value := [.string .empty, .bool false, .bool false, .string .empty, U 0]
def lookE (k : ByteArray) (vs : List Ent) : Option Ent := vs.find? fun x => decide (x.key = k)
theorem lookE_some : ∀ {vs : List Ent} {k : ByteArray} {i : Nat} {x : Ent}, SortE vs → vs[i]? = some x → x.key = k → lookE k vs = some x
  | [], k, i, x, hs, hx, hk => by simp at hx
  | y :: vs, k, i, x, hs, hx, hk => by
    obtain ⟨h1, h2⟩ := List.pairwise_cons.1 hs
    cases i with
    | zero =>
      simp at hx
      subst hx
      simp [lookE, hk]
    | succ i =>
      rw [List.getElem?_cons_succ] at hx
      have := ltT_ne (h1 x (List.mem_of_getElem? hx))
      rw [hk] at this
      have ih := lookE_some h2 hx hk
      unfold lookE at ih ⊢
      rw [List.find?_cons, decide_eq_false this]
      exact ih
theorem lookE_none {vs : List Ent} {k : ByteArray} (h : ∀ x ∈ vs, x.key ≠ k) : lookE k vs = none := by
  unfold lookE
  rw [List.find?_eq_none]
  intro x hx
  simpa using h x hx
theorem lookE_key {vs : List Ent} {k : ByteArray} {x : Ent} (h : lookE k vs = some x) : x.key = k ∧ x ∈ vs := by
  unfold lookE at h
  have := List.find?_some h
  exact ⟨by simpa using this, List.mem_of_find?_eq_some h⟩
def tupE (o : Option Ent) : Value := .tuple #[.agg ⟨(o.getD zeroE).row⟩, .bool o.isSome]
theorem res_cell5 {e : Env} {m : Mem} {t u p : Nat} {row : List Value} {b : Bool} (h1 : X.look e t = some (.pointer (some ⟨p, 0, none⟩))) (h2 : X.look e u = some (.bool b)) (h3 : m.get p = some { cells := row, rw := true, spare := none, kin := [] }) (h4 : row.length = 5) :
    xres e m [.cell true 5 t, .tmp u] = some [.agg ⟨row⟩, .bool b] := by
  have e1 : row.take 5 = row := List.take_of_length_le (by omega)
  simp [xres, h1, h2, xload, h3, h4, e1]
theorem buildZE {m : Mem} : buildE m Z5 [(0, 1), (1, 1), (2, 3)] [] = some (.val (.agg ⟨zeroE.row⟩) m) := by kernel_rfl

theorem find_spec {b : Nat} {m : Mem} {v : Value} {vs : List Ent} {k : ByteArray} (h : RdE b m v vs) (hs : SortE vs) (hl : vs.length ≤ 1000000) (hb : b ≤ m.next) : ∃ m', Ca 40 [v, .string k] m (tupE (lookE k vs)) m' ∧ Nx m m' := by
  obtain ⟨m1, hm1⟩ : ∃ m1, m.push { cells := Z5, rw := true, spare := none, kin := [] } = m1 := ⟨_, rfl⟩
  have g1 : m1.get m.next = some { cells := Z5, rw := true, spare := none, kin := [] } := by rw [← hm1, push_self]
  have f1 : Nx m m1 := hm1 ▸ .push
  have n1 : m1.next = m.next + 1 := by rw [← hm1]; simp
  obtain ⟨i, fd, m2, r1, r2, r3, r4⟩ := search_spec (k := k) (h.fr f1 hb (fun _ h => h.elim)) hs hl (by omega)
  have f2 : Nx m m2 := f1.comp r4 fun _ _ h => h
  have g2 := r4.get (by omega) (fun h => h) g1
  cases fd with
  | false =>
    obtain ⟨m3, s1, s2, s3, s4⟩ := row_store (n := 5) (row := zeroE.row) g2 rfl rfl rfl rfl (by omega)
    refine ⟨m3, callX_of (call_go (F := _) rfl rfl fun Q hQ => ?_), f2.comp s3 fun i hi h => by omega⟩
    rw [lookE_none (r3 rfl)] at hQ
    simp only [symA, go_opsd, symB, wantedX, X.put, X.look, Arg.ev, keepOf, restrict, evs, evO, initEnv, xres, tup, noTup, cls, quiet, Nat.reduceAdd, Nat.reduceEqDiff, ↓reduceIte, reduceCtorEq, goInt, exists_eq_left', eq_self, Int.reduceLT, Int.reduceLE, Int.reduceEq, Int.reduceNeg, Int.reduceAdd, Int.reduceSub, forall_const, ne_eq, undef, Nat.reducePow, Nat.reduceDiv, Nat.reduceMod, hm1, goR_call r1, buildZE, s1]
    exact hQ _ _ _ (by exact res_cell5 (row := zeroE.row) (b := false) rfl rfl s2 rfl) ⟨rfl, rfl⟩
  | true =>
    obtain ⟨x, hx, hk⟩ := r2 rfl
    obtain ⟨a, c', hv', _, l5, _⟩ := rdE_at (h.fr f2 hb (fun _ h => h.elim)) hx
    obtain ⟨m3, s1, s2, s3, s4⟩ := row_store (n := 5) (row := x.row) g2 rfl rfl rfl rfl (by omega)
    have hlt := (List.getElem?_eq_some_iff.1 hx).1
    refine ⟨m3, callX_of (call_go (F := _) rfl rfl fun Q hQ => ?_), f2.comp s3 fun i hi h => by omega⟩
    rw [lookE_some hs hx hk] at hQ
    subst hv'
    simp only [symA, go_opsd, symB, wantedX, X.put, X.look, Arg.ev, keepOf, restrict, evs, evO, initEnv, xres, tup, noTup, cls, quiet, Nat.reduceAdd, Nat.reduceEqDiff, ↓reduceIte, reduceCtorEq, goInt, exists_eq_left', eq_self, Int.reduceLT, Int.reduceLE, Int.reduceEq, Int.reduceNeg, Int.reduceAdd, Int.reduceSub, forall_const, ne_eq, undef, Nat.reducePow, Nat.reduceDiv, Nat.reduceMod, hm1, goR_call r1, hlt, l5, s1]
    exact hQ _ _ _ (by exact res_cell5 (row := x.row) (b := true) rfl rfl s2 rfl) ⟨rfl, rfl⟩

/-! ## The write that leads there -/
def sameV (x y : Ent) : Bool := decide (x.num = y.num) && decide (x.text = y.text) && decide (x.bits = y.bits)
def turnB (wa wb : Bool) (x y : Ent) (k : ByteArray) : Option Wr :=
  if wb = true ∧ (wa = false ∨ sameV x y = false) then some ⟨k, false, y.num, y.text, y.bits⟩
  else if wa = true ∧ wb = false then some ⟨k, true, false, .empty, 0⟩ else none
def turnE (k : ByteArray) (vs ws : List Ent) : Option Wr := turnB (lookE k vs).isSome (lookE k ws).isSome ((lookE k vs).getD zeroE) ((lookE k ws).getD zeroE) k
def tupW (o : Option Wr) : Value := .tuple #[.agg ⟨(o.getD zeroW).row⟩, .bool o.isSome]
theorem neV {m : Mem} {x y : Ent} : binE Try.prog .neq 34 (.agg ⟨valL x.num x.text x.bits⟩) (.agg ⟨valL y.num y.text y.bits⟩) m = some (.val (.bool (!sameV x y)) m) := by
  have h3 : decide ((x.bits : Int) = y.bits) = decide (x.bits = y.bits) := decide_eq_decide.2 (by omega)
  rw [ne34, h3]
  rfl
theorem ld_val {m : Mem} {p : Nat} {x : Ent} (hg : m.get p = some { cells := x.row, rw := true, spare := none, kin := [] }) : ldA m 3 (.pointer (some ⟨p, 2, none⟩)) = some (.val (.agg ⟨valL x.num x.text x.bits⟩) m) := by
  simp [ldA, xload, hg]
theorem buildW {m : Mem} {k t : ByteArray} {n : Bool} {c : Nat} : buildE m ZW [(0, 1), (1, 1), (2, 3)] [(0, .string k), (2, .agg ⟨valL n t c⟩)] = some (.val (.agg ⟨row5 k (.bool false) n t c⟩) m) := by kernel_rfl
theorem buildG {m : Mem} {k : ByteArray} : buildE m ZW [(0, 1), (1, 1), (2, 3)] [(0, .string k), (1, .bool true)] = some (.val (.agg ⟨row5 k (.bool true) false .empty 0⟩) m) := by kernel_rfl
theorem buildZW {m : Mem} : buildE m ZW [(0, 1), (1, 1), (2, 3)] [] = some (.val (.agg ⟨zeroW.row⟩) m) := by kernel_rfl

theorem turn_spec {b : Nat} {m : Mem} {v w : Value} {vs ws : List Ent} {k : ByteArray} (h : RdE b m v vs) (h' : RdE b m w ws) (hs : SortE vs) (hs' : SortE ws) (hl : vs.length ≤ 1000000) (hl' : ws.length ≤ 1000000) (hb : b ≤ m.next) :
    ∃ m', Ca 31 [v, w, .string k] m (tupW (turnE k vs ws)) m' ∧ Nx m m' := by
  obtain ⟨m1, hm1⟩ : ∃ m1, m.push { cells := ZW, rw := true, spare := none, kin := [] } = m1 := ⟨_, rfl⟩
  have g1 : m1.get m.next = some { cells := ZW, rw := true, spare := none, kin := [] } := by rw [← hm1, push_self]
  have f1 : Nx m m1 := hm1 ▸ .push
  have n1 : m1.next = m.next + 1 := by rw [← hm1]; simp
  obtain ⟨m2, q1, q2⟩ := find_spec (k := k) (h.fr f1 hb (fun _ h => h.elim)) hs hl (by omega)
  have n2 := q2.next
  unfold turnE
  unfold tupE at q1
  generalize (lookE k vs).isSome = wa at q1 ⊢
  generalize (lookE k vs).getD zeroE = x at q1 ⊢
  obtain ⟨m3, t1, t2, t3, t4⟩ := new_store (m := m2) (z := Z5) (row := x.row) (n := 5) rfl rfl (by omega)
  have f23 : Nx m1 m3 := q2.comp t3 fun _ _ h => h
  have f3 : Nx m m3 := f1.comp f23 fun _ _ h => h
  obtain ⟨m4, u1, u2⟩ := find_spec (k := k) (h'.fr f3 hb (fun _ h => h.elim)) hs' hl' (by omega)
  have n4 := u2.next
  unfold tupE at u1
  generalize (lookE k ws).isSome = wb at u1 ⊢
  generalize (lookE k ws).getD zeroE = y at u1 ⊢
  obtain ⟨m5, y1, y2, y3, y4⟩ := new_store (m := m4) (z := Z5) (row := y.row) (n := 5) rfl rfl (by omega)
  have f35 : Nx m3 m5 := u2.comp y3 fun _ _ h => h
  have f5 : Nx m m5 := f3.comp f35 fun _ _ h => h
  have ga := f35.get (by omega) (fun h => h) t2
  have gz := (f23.comp f35 fun _ _ h => h).get (by omega) (fun h => h) g1
  have la := ld_val ga
  have lb := ld_val y2
  have fin : ∀ (o : Option Wr) (row : List Value), row = (o.getD zeroW).row → ∃ m6, storeE m5 5 (.pointer (some ⟨m.next, 0, none⟩)) (.agg ⟨row⟩) = some (.skip m6) ∧ m6.get m.next = some { cells := (o.getD zeroW).row, rw := true, spare := none, kin := [] } ∧ Nx m m6 := by
    rintro o _ rfl
    obtain ⟨m6, z1, z2, z3, z4⟩ := row_store (n := 5) (row := (o.getD zeroW).row) gz rfl rfl rfl rfl (by omega)
    exact ⟨m6, z1, z2, f5.comp z3 fun i hi h => by omega⟩
  cases wb with
  | false =>
    cases wa with
    | false =>
      obtain ⟨m6, z1, z2, z3⟩ := fin none zeroW.row rfl
      refine ⟨m6, callX_of (call_go (F := _) rfl rfl fun Q hQ => ?_), z3⟩
      simp only [symA, go_opsd, symB, wantedX, X.put, X.look, Arg.ev, keepOf, restrict, evs, evO, initEnv, xres, tup, noTup, cls, quiet, Nat.reduceAdd, Nat.reduceEqDiff, ↓reduceIte, reduceCtorEq, goInt, exists_eq_left', eq_self, Int.reduceLT, Int.reduceLE, Int.reduceEq, Int.reduceNeg, Int.reduceAdd, Int.reduceSub, forall_const, ne_eq, undef, Nat.reducePow, Nat.reduceDiv, Nat.reduceMod, hm1, goR_call q1, t1, goR_call u1, y1, buildZW, z1]
      exact hQ _ _ _ (by exact res_cell5 (b := false) rfl rfl z2 rfl) ⟨rfl, rfl⟩
    | true =>
      obtain ⟨m6, z1, z2, z3⟩ := fin (some ⟨k, true, false, .empty, 0⟩) (row5 k (.bool true) false .empty 0) rfl
      refine ⟨m6, callX_of (call_go (F := _) rfl rfl fun Q hQ => ?_), z3⟩
      simp only [symA, go_opsd, symB, wantedX, X.put, X.look, Arg.ev, keepOf, restrict, evs, evO, initEnv, xres, tup, noTup, cls, quiet, Nat.reduceAdd, Nat.reduceEqDiff, ↓reduceIte, reduceCtorEq, goInt, exists_eq_left', eq_self, Int.reduceLT, Int.reduceLE, Int.reduceEq, Int.reduceNeg, Int.reduceAdd, Int.reduceSub, forall_const, ne_eq, undef, Nat.reducePow, Nat.reduceDiv, Nat.reduceMod, hm1, goR_call q1, t1, goR_call u1, y1, buildG, z1]
      exact hQ _ _ _ (by exact res_cell5 (b := true) rfl rfl z2 rfl) ⟨rfl, rfl⟩
  | true =>
    obtain ⟨m6, z1, z2, z3⟩ := fin (some ⟨k, false, y.num, y.text, y.bits⟩) (row5 k (.bool false) y.num y.text y.bits) rfl
    cases wa with
    | false =>
      refine ⟨m6, callX_of (call_go (F := _) rfl rfl fun Q hQ => ?_), z3⟩
      simp only [symA, go_opsd, symB, wantedX, X.put, X.look, Arg.ev, keepOf, restrict, evs, evO, initEnv, xres, tup, noTup, cls, quiet, Nat.reduceAdd, Nat.reduceEqDiff, ↓reduceIte, reduceCtorEq, goInt, exists_eq_left', eq_self, Int.reduceLT, Int.reduceLE, Int.reduceEq, Int.reduceNeg, Int.reduceAdd, Int.reduceSub, forall_const, ne_eq, undef, Nat.reducePow, Nat.reduceDiv, Nat.reduceMod, hm1, goR_call q1, t1, goR_call u1, y1, lb, buildW, z1]
      exact hQ _ _ _ (by exact res_cell5 (b := true) rfl rfl z2 rfl) ⟨rfl, rfl⟩
    | true =>
      cases hsv : sameV x y with
      | false =>
        refine ⟨m6, callX_of (call_go (F := _) rfl rfl fun Q hQ => ?_), z3⟩
        have e : turnB true true x y k = some ⟨k, false, y.num, y.text, y.bits⟩ := by simp [turnB, hsv]
        rw [e] at hQ
        simp only [symA, go_opsd, symB, wantedX, X.put, X.look, Arg.ev, keepOf, restrict, evs, evO, initEnv, xres, tup, noTup, cls, quiet, Nat.reduceAdd, Nat.reduceEqDiff, ↓reduceIte, reduceCtorEq, goInt, exists_eq_left', eq_self, Int.reduceLT, Int.reduceLE, Int.reduceEq, Int.reduceNeg, Int.reduceAdd, Int.reduceSub, forall_const, ne_eq, undef, Nat.reducePow, Nat.reduceDiv, Nat.reduceMod, hm1, goR_call q1, t1, goR_call u1, y1, la, lb, neV, hsv, buildW, z1]
        exact hQ _ _ _ (by exact res_cell5 (b := true) rfl rfl z2 rfl) ⟨rfl, rfl⟩
      | true =>
        obtain ⟨m6, z1, z2, z3⟩ := fin none zeroW.row rfl
        refine ⟨m6, callX_of (call_go (F := _) rfl rfl fun Q hQ => ?_), z3⟩
        have e : turnB true true x y k = none := by simp [turnB, hsv]
        rw [e] at hQ
        simp only [symA, go_opsd, symB, wantedX, X.put, X.look, Arg.ev, keepOf, restrict, evs, evO, initEnv, xres, tup, noTup, cls, quiet, Nat.reduceAdd, Nat.reduceEqDiff, ↓reduceIte, reduceCtorEq, goInt, exists_eq_left', eq_self, Int.reduceLT, Int.reduceLE, Int.reduceEq, Int.reduceNeg, Int.reduceAdd, Int.reduceSub, forall_const, ne_eq, undef, Nat.reducePow, Nat.reduceDiv, Nat.reduceMod, hm1, goR_call q1, t1, goR_call u1, y1, la, lb, neV, hsv, buildZW, z1]
        exact hQ _ _ _ (by exact res_cell5 (b := false) rfl rfl z2 rfl) ⟨rfl, rfl⟩
end Go.Proofs.Ytlldfkapaeidoaa
