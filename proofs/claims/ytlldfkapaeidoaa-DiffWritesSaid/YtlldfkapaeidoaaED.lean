/-
  Own work. Bytes of values: only their number counts. (Turned from the chain's texts.)
-/
import Derived.Test.YtlldfkapaeidoaaD5
namespace Go.Proofs.Ytlldfkapaeidoaa
open Go X
set_option maxRecDepth 100000

set_option linter.unusedVariables false
set_option linter.unusedSimpArgs false

/-! ## Texts -/
theorem bin_sadd {m : Mem} {a b : ByteArray} (h : a.size + b.size ≤ 4611686018427387903) : binE Try.prog .add 9 (.string a) (.string b) m = some (.val (.string (a ++ b)) m) := by
  have h1 : ¬ (((a.size + b.size : Nat) : Int) > IntKind.i64.max) := by
    have : IntKind.i64.max = 9223372036854775807 := by decide
    rw [this]; omega
  unfold binE
  rw [if_pos (show (plain (.string a) && plain (.string b)) = true from rfl), ans_bind]
  have hg : ans Try.prog (eqGuard .add 9 (.const (.string a)) (.const (.string b)) (.string a) (.string b)) = some () := rfl
  rw [hg]
  simp only [Option.bind_some, binOp, Op.stringOp]
  rw [if_neg h1]
  rfl
theorem size_append {a b : ByteArray} : (a ++ b).size = a.size + b.size := ByteArray.size_append

def bstrE (m : Mem) (v : Value) : Option XR := (xlen v).bind fun n => (xfirst m 1 n v).bind fun cs => (byteL cs).bind fun bs => match v with
    | .slice _ _ _ => some (.val (.string ⟨bs.toArray⟩) m)
    | _ => none
theorem xi_bstr {e : Env} {m : Mem} {x : Arg} : xi Try.prog e m (.bstr x) = (x.ev e).bind (bstrE m) := (rfl)
def arrSliceE (m : Mem) (n : Nat) : Value → Option XR
  | .pointer (some a) => if a.spot.isNone then some (.val (.slice (some ⟨a.block, a.off, none⟩) n n) m) else none
  | _ => none
theorem xi_arrSlice {e : Env} {m : Mem} {n : Nat} {x : Arg} : xi Try.prog e m (.arrSlice n x) = (x.ev e).bind (arrSliceE m n) := (rfl)
theorem arrSlice_ptr {m : Mem} {n b off : Nat} : arrSliceE m n (.pointer (some ⟨b, off, none⟩)) = some (.val (.slice (some ⟨b, off, none⟩) n n) m) := (rfl)
theorem byteL_len : ∀ {cs : List Value}, (∀ c ∈ cs, ∃ n, c = .int .u8 n) → ∃ bs, byteL cs = some bs ∧ bs.length = cs.length
  | [], _ => ⟨[], rfl, rfl⟩
  | c :: cs, h => by
    obtain ⟨n, rfl⟩ := h c (by simp)
    obtain ⟨bs, h1, h2⟩ := byteL_len (cs := cs) (fun c hc => h c (by simp [hc]))
    exact ⟨_ :: bs, by simp only [byteL, h1, Option.map_some]; rfl, by simp [h2]⟩
theorem bstr_row {m : Mem} {b n : Nat} {o : XObj} (hg : m.get b = some o) (hl : o.cells.length = n) (h0 : 0 < n) (h : ∀ c ∈ o.cells, ∃ k, c = .int .u8 k) : ∃ s, bstrE m (.slice (some ⟨b, 0, none⟩) n n) = some (.val (.string s) m) ∧ s.size = n := by
  obtain ⟨bs, h1, h2⟩ := byteL_len h
  refine ⟨⟨bs.toArray⟩, ?_, by show bs.toArray.size = n; simp [h2, hl]⟩
  have hx : xfirst m 1 n (.slice (some ⟨b, 0, none⟩) n n) = some o.cells := by
    simp only [xfirst]
    rw [if_neg (by omega), xload_own hg (by omega), List.drop_zero, List.take_of_length_le (by omega)]
  simp only [bstrE, xlen, Option.bind_some, hx, h1]
theorem conv_u8 {m : Mem} {n : Int} : convE Try.prog 32 5 m (U n) = some (.val (.int .u8 (IntKind.u8.wrap n)) m) := by kernel_rfl
theorem calc_lenn {m : Mem} {t : ByteArray} {n : List Bool} : calcE Try.prog .len [9] 3 n [.string t] m = some (.val (I (t.size : Nat)) m) := calc_len

/-- A row of bytes. -/
def Bytes8 (cs : List Value) : Prop := cs.length = 8 ∧ ∀ c ∈ cs, ∃ n, c = .int .u8 n
theorem bytes8_set {cs : List Value} {i : Nat} {n : Int} (h : Bytes8 cs) : Bytes8 (cs.set i (.int .u8 n)) := by
  refine ⟨by simp [h.1], fun c hc => ?_⟩
  rcases List.mem_or_eq_of_mem_set hc with h1 | rfl
  · exact h.2 c h1
  · exact ⟨n, rfl⟩
theorem bytes8_zero : Bytes8 [.int .u8 0, .int .u8 0, .int .u8 0, .int .u8 0, .int .u8 0, .int .u8 0, .int .u8 0, .int .u8 0] := ⟨rfl, by simp⟩

/-! ## A number's bytes -/
theorem shr_any {m : Mem} {p : Int} {i : Nat} (h : i < 8) : ∃ q, binE Try.prog .shr 32 (U p) (I (8 * (7 - (i : Int)))) m = some (.val (U q) m) := by
  have : i = 0 ∨ i = 1 ∨ i = 2 ∨ i = 3 ∨ i = 4 ∨ i = 5 ∨ i = 6 ∨ i = 7 := by omega
  rcases this with rfl | rfl | rfl | rfl | rfl | rfl | rfl | rfl
  · exact ⟨p.fdiv (2 ^ 56), by kernel_rfl⟩
  · exact ⟨p.fdiv (2 ^ 48), by kernel_rfl⟩
  · exact ⟨p.fdiv (2 ^ 40), by kernel_rfl⟩
  · exact ⟨p.fdiv (2 ^ 32), by kernel_rfl⟩
  · exact ⟨p.fdiv (2 ^ 24), by kernel_rfl⟩
  · exact ⟨p.fdiv (2 ^ 16), by kernel_rfl⟩
  · exact ⟨p.fdiv (2 ^ 8), by kernel_rfl⟩
  · exact ⟨p.fdiv (2 ^ 0), by kernel_rfl⟩
def indexArrE (m : Mem) (n size : Nat) : Value → Value → Option XR
  | .pointer (some a), vi => (asNat vi).bind fun j => if j < n ∧ a.spot.isNone then some (.val (.pointer (some ⟨a.block, a.off + j * size, none⟩)) m) else none
  | _, _ => none
theorem xi_indexArr {e : Env} {m : Mem} {n size : Nat} {x y : Arg} : xi Try.prog e m (.indexAddrArr n size x y) = (x.ev e).bind fun v => (y.ev e).bind fun vi => indexArrE m n size v vi := by
  simp only [xi]
  congr 1; funext v; congr 1; funext vi
  cases v with
  | pointer p => cases p <;> rfl
  | _ => rfl
theorem indexArr_at {m : Mem} {n size i b off : Nat} {kd : IntKind} (h : i < n) : indexArrE m n size (.pointer (some ⟨b, off, none⟩)) (.int kd (i : Int)) = some (.val (.pointer (some ⟨b, off + i * size, none⟩)) m) := by
  simp [indexArrE, asNat_nat, h]

theorem and_any {m : Mem} {p : Int} : binE Try.prog .and 32 (U p) (U 9223372036854775808) m = some (.val (U (IntKind.u64.wrap ((BitVec.ofInt 64 p) &&& (BitVec.ofInt 64 9223372036854775808)).toNat)) m) := by kernel_rfl
theorem andNot_any {m : Mem} {p : Int} : binE Try.prog .andNot 32 (U p) (U 9223372036854775808) m = some (.val (U (IntKind.u64.wrap ((BitVec.ofInt 64 p) &&& ~~~(BitVec.ofInt 64 9223372036854775808)).toNat)) m) := by kernel_rfl

theorem place_spec {m : Mem} {b : Nat} (hb : b < 18446744073709551616) : ∃ q, Ca 67 [Fl b] m (U q) m := by
  have key : Wc 67 [Fl b] m fun r m' => (∃ q, r = U q) ∧ m' = m := by
    refine call_go (F := _) rfl rfl fun Q hQ => ?_
    by_cases h1 : ((nb b : Nat) : Int) = 9221120237041090561
    · simp only [symA, go_opsd, symB, wantedX, X.put, X.look, Arg.ev, keepOf, restrict, evs, evO, initEnv, xres, tup, noTup, cls, quiet, Nat.reduceAdd, Nat.reduceEqDiff, ↓reduceIte, reduceCtorEq, goInt, exists_eq_left', eq_self, Int.reduceLT, Int.reduceLE, Int.reduceEq, Int.reduceNeg, Int.reduceAdd, Int.reduceSub, forall_const, ne_eq, undef, Nat.reducePow, Nat.reduceDiv, Nat.reduceMod, goR_call (bits_spec hb), h1]
      exact hQ _ _ _ rfl ⟨⟨_, rfl⟩, rfl⟩
    · obtain ⟨q1, e1⟩ : ∃ q1, binE Try.prog .and 32 (U ((nb b : Nat) : Int)) (U 9223372036854775808) m = some (.val (U q1) m) := ⟨_, and_any⟩
      obtain ⟨q2, e2⟩ : ∃ q2, binE Try.prog .andNot 32 (U ((nb b : Nat) : Int)) (U 9223372036854775808) m = some (.val (U q2) m) := ⟨_, andNot_any⟩
      by_cases h2 : q1 = 0
      · simp only [symA, go_opsd, symB, wantedX, X.put, X.look, Arg.ev, keepOf, restrict, evs, evO, initEnv, xres, tup, noTup, cls, quiet, Nat.reduceAdd, Nat.reduceEqDiff, ↓reduceIte, reduceCtorEq, goInt, exists_eq_left', eq_self, Int.reduceLT, Int.reduceLE, Int.reduceEq, Int.reduceNeg, Int.reduceAdd, Int.reduceSub, forall_const, ne_eq, undef, Nat.reducePow, Nat.reduceDiv, Nat.reduceMod, goR_call (bits_spec hb), h1, e1, h2]
        exact hQ _ _ _ rfl ⟨⟨_, rfl⟩, rfl⟩
      · simp only [symA, go_opsd, symB, wantedX, X.put, X.look, Arg.ev, keepOf, restrict, evs, evO, initEnv, xres, tup, noTup, cls, quiet, Nat.reduceAdd, Nat.reduceEqDiff, ↓reduceIte, reduceCtorEq, goInt, exists_eq_left', eq_self, Int.reduceLT, Int.reduceLE, Int.reduceEq, Int.reduceNeg, Int.reduceAdd, Int.reduceSub, forall_const, ne_eq, undef, Nat.reducePow, Nat.reduceDiv, Nat.reduceMod, goR_call (bits_spec hb), h1, e1, h2, e2]
        exact hQ _ _ _ rfl ⟨⟨_, rfl⟩, rfl⟩
  obtain ⟨r, m', hc, ⟨q, rfl⟩, rfl⟩ := key
  exact ⟨q, hc⟩

theorem nkey_spec {m : Mem} {b : Nat} (hb : b < 18446744073709551616) : ∃ s m', Ca 54 [Fl b] m (.string s) m' ∧ s.size = 8 ∧ Nx m m' := by
  have key : Wc 54 [Fl b] m fun r m' => (∃ s : ByteArray, r = .string s ∧ s.size = 8) ∧ Nx m m' := by
    refine call_go (F := _) rfl rfl fun Q hQ => ?_
    obtain ⟨m1, hm1⟩ : ∃ m1, m.push { cells := [.int .u8 0, .int .u8 0, .int .u8 0, .int .u8 0, .int .u8 0, .int .u8 0, .int .u8 0, .int .u8 0], rw := true, spare := none, kin := [] } = m1 := ⟨_, rfl⟩
    have g1 : m1.get m.next = some { cells := [.int .u8 0, .int .u8 0, .int .u8 0, .int .u8 0, .int .u8 0, .int .u8 0, .int .u8 0, .int .u8 0], rw := true, spare := none, kin := [] } := by rw [← hm1, push_self]
    have f1 : Nx m m1 := hm1 ▸ .push
    obtain ⟨q, hp⟩ := place_spec (m := m1) hb
    simp only [symA, go_opsd, symB, wantedX, X.put, X.look, Arg.ev, keepOf, restrict, evs, evO, initEnv, xres, tup, noTup, cls, quiet, Nat.reduceAdd, Nat.reduceEqDiff, ↓reduceIte, reduceCtorEq, goInt, exists_eq_left', eq_self, Int.reduceLT, Int.reduceLE, Int.reduceEq, Int.reduceNeg, Int.reduceAdd, Int.reduceSub, forall_const, ne_eq, undef, Nat.reducePow, Nat.reduceDiv, Nat.reduceMod, hm1, goR_call hp]
    refine loop_go (fun j e m' => Nx m m' ∧ ∃ (i : Nat) (cs : List Value), i ≤ 8 ∧ j = 8 - i ∧ Bytes8 cs ∧ m'.get m.next = some { cells := cs, rw := true, spare := none, kin := [] } ∧
      e = [(3, .pointer (some ⟨m.next, 0, none⟩)), (4, U q), (8, I i)]) 8 ⟨f1, 0, _, by omega, rfl, bytes8_zero, g1, rfl⟩ ?_
    rintro j e m2 N' B' hN hB ⟨hnx, i, cs, hi, rfl, hcs, hg, rfl⟩
    by_cases hlt : i < 8
    · have hlt' : (i : Int) < 8 := by omega
      obtain ⟨u, hu⟩ := shr_any (m := m2) (p := q) hlt
      have w1 : IntKind.i64.wrap (7 - (i : Int)) = 7 - i := wrap_i64 (by omega) (by omega)
      have w2 : IntKind.i64.wrap (8 * (7 - (i : Int))) = 8 * (7 - i) := wrap_i64 (by omega) (by omega)
      have w3 : IntKind.i64.wrap ((i : Int) + 1) = ((i + 1 : Nat) : Int) := by rw [wrap_i64 (by omega) (by omega)]; omega
      have st : storeE m2 1 (.pointer (some ⟨m.next, i, none⟩)) (.int .u8 (IntKind.u8.wrap u)) = some (.skip (put1 m2 m.next i { cells := cs, rw := true, spare := none, kin := [] } (.int .u8 (IntKind.u8.wrap u)))) := store1 hg rfl rfl (by show i < cs.length; rw [hcs.1]; exact hlt) rfl rfl
      simp only [symA, go_opsd, symB, wantedX, X.put, X.look, Arg.ev, keepOf, restrict, evs, evO, initEnv, xres, tup, noTup, cls, quiet, Nat.reduceAdd, Nat.reduceEqDiff, ↓reduceIte, reduceCtorEq, goInt, exists_eq_left', eq_self, Int.reduceLT, Int.reduceLE, Int.reduceEq, Int.reduceNeg, Int.reduceAdd, Int.reduceSub, forall_const, ne_eq, undef, Nat.reducePow, Nat.reduceDiv, Nat.reduceMod, hlt', w1, w2, hu, conv_u8, xi_indexArr, indexArr_at hlt, st, w3]
      exact hN _ _ (8 - (i + 1)) (by omega) ⟨hnx.comp (Fm.set (S := (· = m.next)) rfl) (fun i hi h => by omega), i + 1, cs.set i (.int .u8 (IntKind.u8.wrap u)), by omega, rfl, bytes8_set hcs, by simp [put1, Mem.get_set], rfl⟩
    · have hlt' : ¬ (i : Int) < 8 := by omega
      obtain ⟨s, hs, hsz⟩ := bstr_row hg hcs.1 (by omega) hcs.2
      simp only [symA, go_opsd, symB, wantedX, X.put, X.look, Arg.ev, keepOf, restrict, evs, evO, initEnv, xres, tup, noTup, cls, quiet, Nat.reduceAdd, Nat.reduceEqDiff, ↓reduceIte, reduceCtorEq, goInt, exists_eq_left', eq_self, Int.reduceLT, Int.reduceLE, Int.reduceEq, Int.reduceNeg, Int.reduceAdd, Int.reduceSub, forall_const, ne_eq, undef, Nat.reducePow, Nat.reduceDiv, Nat.reduceMod, hlt']
      refine hB _ _ _ ?_
      simp only [symA, go_opsd, symB, wantedX, X.put, X.look, Arg.ev, keepOf, restrict, evs, evO, initEnv, xres, tup, noTup, cls, quiet, Nat.reduceAdd, Nat.reduceEqDiff, ↓reduceIte, reduceCtorEq, goInt, exists_eq_left', eq_self, Int.reduceLT, Int.reduceLE, Int.reduceEq, Int.reduceNeg, Int.reduceAdd, Int.reduceSub, forall_const, ne_eq, undef, Nat.reducePow, Nat.reduceDiv, Nat.reduceMod, xi_arrSlice, arrSlice_ptr, xi_bstr, hs]
      exact hQ _ _ _ rfl ⟨⟨s, rfl, hsz⟩, hnx⟩
  obtain ⟨r, m', hc, ⟨s, rfl, hs⟩, hf⟩ := key
  exact ⟨s, m', hc, hs, hf⟩

/-! ## Weights -/
def wgtV (n : Bool) (t : ByteArray) : Nat := bif n then 9 else 1 + t.size

theorem pack_spec {m : Mem} {n : Bool} {t : ByteArray} {b : Nat} (hx : b < 18446744073709551616) (hr : vright n t b = true) : ∃ s m', Ca 44 [.agg ⟨(valL n t b)⟩] m (.tuple #[.string s, I 0]) m' ∧ s.size = wgtV n t ∧ Nx m m' := by
  obtain ⟨m1, hm1⟩ : ∃ m1, m.push { cells := (valL n t b), rw := true, spare := none, kin := [] } = m1 := ⟨_, rfl⟩
  have g1 : m1.get m.next = some { cells := (valL n t b), rw := true, spare := none, kin := [] } := by rw [← hm1, push_self]
  have f1 : Nx m m1 := hm1 ▸ .push
  have n1 : m1.next = m.next + 1 := by rw [← hm1]; simp
  have l1 : ldA m1 3 (.pointer (some ⟨m.next, 0, none⟩)) = some (.val (.agg ⟨(valL n t b)⟩) m1) := by simp [ldA, xload, g1]
  obtain ⟨m2, v1, v2⟩ := vright_spec (m := m1) (n := n) (t := t) hx
  rw [hr] at v1
  have g2 := v2.get (by omega) (fun h => h) g1
  have f2 : Nx m m2 := f1.comp v2 fun _ _ h => h
  cases n with
  | false =>
    have hsz : t.size ≤ 64 := by simp [vright] at hr; omega
    have hadd := bin_sadd (m := m2) (a := ⟨#[0]⟩) (b := t) (by show 1 + t.size ≤ _; omega)
    refine ⟨⟨#[0]⟩ ++ t, m2, callX_of (call_go (F := _) rfl rfl fun Q hQ => ?_), by rw [size_append]; simp [wgtV]; rfl, f2⟩
    simp only [symA, go_opsd, symB, wantedX, X.put, X.look, Arg.ev, keepOf, restrict, evs, evO, initEnv, xres, tup, noTup, cls, quiet, Nat.reduceAdd, Nat.reduceEqDiff, ↓reduceIte, reduceCtorEq, goInt, exists_eq_left', eq_self, Int.reduceLT, Int.reduceLE, Int.reduceEq, Int.reduceNeg, Int.reduceAdd, Int.reduceSub, forall_const, ne_eq, undef, Nat.reducePow, Nat.reduceDiv, Nat.reduceMod, hm1, l1, goR_call v1, g2, hadd]
    refine hQ _ _ _ rfl ?_
    exact ⟨rfl, rfl⟩
  | true =>
    obtain ⟨s, m3, k1, k2, k3⟩ := nkey_spec (m := m2) (nb_lt hx)
    have hadd := bin_sadd (m := m3) (a := ⟨#[1]⟩) (b := s) (by show 1 + s.size ≤ _; omega)
    refine ⟨⟨#[1]⟩ ++ s, m3, callX_of (call_go (F := _) rfl rfl fun Q hQ => ?_), by rw [size_append, k2]; simp [wgtV]; rfl, f2.comp k3 fun _ _ h => h⟩
    simp only [symA, go_opsd, symB, wantedX, X.put, X.look, Arg.ev, keepOf, restrict, evs, evO, initEnv, xres, tup, noTup, cls, quiet, Nat.reduceAdd, Nat.reduceEqDiff, ↓reduceIte, reduceCtorEq, goInt, exists_eq_left', eq_self, Int.reduceLT, Int.reduceLE, Int.reduceEq, Int.reduceNeg, Int.reduceAdd, Int.reduceSub, forall_const, ne_eq, undef, Nat.reducePow, Nat.reduceDiv, Nat.reduceMod, hm1, l1, goR_call v1, g2, goR_call (from_spec hx), goR_call k1, hadd]
    refine hQ _ _ _ rfl ?_
    exact ⟨rfl, rfl⟩

theorem vweight_spec {m : Mem} {n : Bool} {t : ByteArray} {b : Nat} (hx : b < 18446744073709551616) (hr : vright n t b = true) : ∃ m', Ca 36 [.agg ⟨(valL n t b)⟩] m (I (wgtV n t : Nat)) m' ∧ Nx m m' := by
  obtain ⟨m1, hm1⟩ : ∃ m1, m.push { cells := (valL n t b), rw := true, spare := none, kin := [] } = m1 := ⟨_, rfl⟩
  have g1 : m1.get m.next = some { cells := (valL n t b), rw := true, spare := none, kin := [] } := by rw [← hm1, push_self]
  have f1 : Nx m m1 := hm1 ▸ .push
  have l1 : ldA m1 3 (.pointer (some ⟨m.next, 0, none⟩)) = some (.val (.agg ⟨(valL n t b)⟩) m1) := by simp [ldA, xload, g1]
  obtain ⟨s, m2, p1, p2, p3⟩ := pack_spec (m := m1) hx hr
  refine ⟨m2, callX_of (call_go (F := _) rfl rfl fun Q hQ => ?_), f1.comp p3 fun _ _ h => h⟩
  rw [← p2] at hQ
  simp only [symA, go_opsd, symB, wantedX, X.put, X.look, Arg.ev, keepOf, restrict, evs, evO, initEnv, xres, tup, noTup, cls, quiet, Nat.reduceAdd, Nat.reduceEqDiff, ↓reduceIte, reduceCtorEq, goInt, exists_eq_left', eq_self, Int.reduceLT, Int.reduceLE, Int.reduceEq, Int.reduceNeg, Int.reduceAdd, Int.reduceSub, forall_const, ne_eq, undef, Nat.reducePow, Nat.reduceDiv, Nat.reduceMod, hm1, l1, goR_call p1, calc_len]
  refine hQ _ _ _ rfl ?_
  exact ⟨rfl, rfl⟩

/-! ## The document's bytes -/
theorem rplace_spec {m : Mem} {b : Nat} (hb : b < 18446744073709551616) : ∃ q : Nat, Ca 43 [Fl b] m (U (q : Int)) m := by
  have key : Wc 43 [Fl b] m fun r m' => (∃ q : Nat, r = U (q : Int)) ∧ m' = m := by
    have hwr : ∀ n : Int, ∃ q : Nat, IntKind.u64.wrap n = (q : Int) := fun n => by
      refine ⟨(IntKind.u64.wrap n).toNat, ?_⟩
      rw [Int.toNat_of_nonneg]
      simp only [IntKind.wrap, IntKind.signed, IntKind.bits, Bool.false_and, Bool.false_eq_true, if_false]
      omega
    refine call_go (F := _) rfl rfl fun Q hQ => ?_
    have e := rnan_spec (m := m) hb
    cases hn : nanN b with
    | true =>
      rw [hn] at e
      simp only [symA, go_opsd, symB, wantedX, X.put, X.look, Arg.ev, keepOf, restrict, evs, evO, initEnv, xres, tup, noTup, cls, quiet, Nat.reduceAdd, Nat.reduceEqDiff, ↓reduceIte, reduceCtorEq, goInt, exists_eq_left', eq_self, Int.reduceLT, Int.reduceLE, Int.reduceEq, Int.reduceNeg, Int.reduceAdd, Int.reduceSub, forall_const, ne_eq, undef, Nat.reducePow, Nat.reduceDiv, Nat.reduceMod, goR_call e]
      exact hQ _ _ _ rfl ⟨⟨18437736874454810626, rfl⟩, rfl⟩
    | false =>
      rw [hn] at e
      by_cases h1 : (9223372036854775808 : Int) ≤ (b : Int)
      · simp only [symA, go_opsd, symB, wantedX, X.put, X.look, Arg.ev, keepOf, restrict, evs, evO, initEnv, xres, tup, noTup, cls, quiet, Nat.reduceAdd, Nat.reduceEqDiff, ↓reduceIte, reduceCtorEq, goInt, exists_eq_left', eq_self, Int.reduceLT, Int.reduceLE, Int.reduceEq, Int.reduceNeg, Int.reduceAdd, Int.reduceSub, forall_const, ne_eq, undef, Nat.reducePow, Nat.reduceDiv, Nat.reduceMod, goR_call e, goR_call (parts_spec hb), h1]
        refine hQ _ _ _ rfl ⟨?_, rfl⟩
        obtain ⟨q, hq⟩ := hwr _
        exact ⟨q, by rw [← hq]; rfl⟩
      · simp only [symA, go_opsd, symB, wantedX, X.put, X.look, Arg.ev, keepOf, restrict, evs, evO, initEnv, xres, tup, noTup, cls, quiet, Nat.reduceAdd, Nat.reduceEqDiff, ↓reduceIte, reduceCtorEq, goInt, exists_eq_left', eq_self, Int.reduceLT, Int.reduceLE, Int.reduceEq, Int.reduceNeg, Int.reduceAdd, Int.reduceSub, forall_const, ne_eq, undef, Nat.reducePow, Nat.reduceDiv, Nat.reduceMod, goR_call e, goR_call (parts_spec hb), h1]
        refine hQ _ _ _ rfl ⟨?_, rfl⟩
        obtain ⟨q, hq⟩ := hwr _
        exact ⟨q, by rw [← hq]; rfl⟩
  obtain ⟨r, m', hc, ⟨q, rfl⟩, rfl⟩ := key
  exact ⟨q, hc⟩

theorem nrkey_spec {m : Mem} {b : Nat} (hb : b < 18446744073709551616) : ∃ s m', Ca 34 [Fl b] m (.string s) m' ∧ s.size = 8 ∧ Nx m m' := by
  have key : Wc 34 [Fl b] m fun r m' => (∃ s : ByteArray, r = .string s ∧ s.size = 8) ∧ Nx m m' := by
    refine call_go (F := _) rfl rfl fun Q hQ => ?_
    obtain ⟨q0, hp⟩ := rplace_spec (m := m) hb
    have hms : ∀ e, xi Try.prog e m (.makeSlice [.int .u8 0] 1 (.c (I 8)) (.c (I 8))) = some (.val (.slice (some ⟨m.next, 0, none⟩) 8 8) (m.push { cells := [.int .u8 0, .int .u8 0, .int .u8 0, .int .u8 0, .int .u8 0, .int .u8 0, .int .u8 0, .int .u8 0], rw := true, spare := none, kin := [] })) := fun e => by kernel_rfl
    obtain ⟨m1, hm1⟩ : ∃ m1, m.push { cells := [.int .u8 0, .int .u8 0, .int .u8 0, .int .u8 0, .int .u8 0, .int .u8 0, .int .u8 0, .int .u8 0], rw := true, spare := none, kin := [] } = m1 := ⟨_, rfl⟩
    have g1 : m1.get m.next = some { cells := [.int .u8 0, .int .u8 0, .int .u8 0, .int .u8 0, .int .u8 0, .int .u8 0, .int .u8 0, .int .u8 0], rw := true, spare := none, kin := [] } := by rw [← hm1, push_self]
    have f1 : Nx m m1 := hm1 ▸ .push
    rw [hm1] at hms
    simp only [symA, go_opsd, symB, wantedX, X.put, X.look, Arg.ev, keepOf, restrict, evs, evO, initEnv, xres, tup, noTup, cls, quiet, Nat.reduceAdd, Nat.reduceEqDiff, ↓reduceIte, reduceCtorEq, goInt, exists_eq_left', eq_self, Int.reduceLT, Int.reduceLE, Int.reduceEq, Int.reduceNeg, Int.reduceAdd, Int.reduceSub, forall_const, ne_eq, undef, Nat.reducePow, Nat.reduceDiv, Nat.reduceMod, goR_call hp, hms]
    refine loop_go (fun j e m' => Nx m m' ∧ ∃ (i q : Nat) (cs : List Value), i ≤ 8 ∧ j = i ∧ Bytes8 cs ∧ m'.get m.next = some { cells := cs, rw := true, spare := none, kin := [] } ∧
      e = [(3, U (q : Int)), (4, .slice (some ⟨m.next, 0, none⟩) 8 8), (5, I ((i : Int) - 1))]) 8 ⟨f1, 8, q0, _, by omega, rfl, bytes8_zero, g1, rfl⟩ ?_
    rintro j e m2 N' B' hN hB ⟨hnx, i, q, cs, hi, rfl, hcs, hg, rfl⟩
    by_cases h0 : 0 < j
    · have h0' : (0 : Int) ≤ (j : Int) - 1 := by omega
      have hj : (j : Int) - 1 = ((j - 1 : Nat) : Int) := by omega
      have hlt : j - 1 < 8 := by omega
      have q1 : binE Try.prog .rem 32 (U (q : Int)) (U 256) m2 = some (.val (U ((q % 256 : Nat) : Int)) m2) := by
        rw [bin_rem (by decide), Int.tmod_eq_emod_of_nonneg (by omega)]; rfl
      have w2 : IntKind.u64.wrap ((q / 256 : Nat) : Int) = ((q / 256 % 18446744073709551616 : Nat) : Int) := by
        simp only [IntKind.wrap, IntKind.signed, IntKind.bits, Bool.false_and, Bool.false_eq_true, if_false]
        omega
      have q2 : ∀ m3, binE Try.prog .quo 32 (U (q : Int)) (U 256) m3 = some (.val (U ((q / 256 % 18446744073709551616 : Nat) : Int)) m3) := fun m3 => by
        rw [bin_quo (by decide), Int.tdiv_eq_ediv_of_nonneg (by omega), ← w2]; rfl
      have w3 : IntKind.i64.wrap (((j - 1 : Nat) : Int) - 1) = ((j - 1 : Nat) : Int) - 1 := wrap_i64 (by omega) (by omega)
      have st : storeE m2 1 (.pointer (some ⟨m.next, j - 1, none⟩)) (.int .u8 (IntKind.u8.wrap ((q % 256 : Nat) : Int))) = some (.skip (put1 m2 m.next (j - 1) { cells := cs, rw := true, spare := none, kin := [] } (.int .u8 (IntKind.u8.wrap ((q % 256 : Nat) : Int))))) := store1 hg rfl rfl (by show j - 1 < cs.length; rw [hcs.1]; exact hlt) rfl rfl
      rw [hj]
      rw [hj] at h0'
      simp only [symA, go_opsd, symB, wantedX, X.put, X.look, Arg.ev, keepOf, restrict, evs, evO, initEnv, xres, tup, noTup, cls, quiet, Nat.reduceAdd, Nat.reduceEqDiff, ↓reduceIte, reduceCtorEq, goInt, exists_eq_left', eq_self, Int.reduceLT, Int.reduceLE, Int.reduceEq, Int.reduceNeg, Int.reduceAdd, Int.reduceSub, forall_const, ne_eq, undef, Nat.reducePow, Nat.reduceDiv, Nat.reduceMod, h0', q1, conv_u8, hlt, st, q2, w3]
      exact hN _ _ (j - 1) (by omega) ⟨hnx.comp (Fm.set (S := (· = m.next)) rfl) (fun i hi h => by omega), j - 1, q / 256 % 18446744073709551616, cs.set (j - 1) (.int .u8 (IntKind.u8.wrap ((q % 256 : Nat) : Int))), by omega, rfl, bytes8_set hcs, by simp only [put1, Mem.get_set, if_true], rfl⟩
    · have h0' : ¬ (0 : Int) ≤ (j : Int) - 1 := by omega
      obtain ⟨s, hs, hsz⟩ := bstr_row hg hcs.1 (by omega) hcs.2
      simp only [symA, go_opsd, symB, wantedX, X.put, X.look, Arg.ev, keepOf, restrict, evs, evO, initEnv, xres, tup, noTup, cls, quiet, Nat.reduceAdd, Nat.reduceEqDiff, ↓reduceIte, reduceCtorEq, goInt, exists_eq_left', eq_self, Int.reduceLT, Int.reduceLE, Int.reduceEq, Int.reduceNeg, Int.reduceAdd, Int.reduceSub, forall_const, ne_eq, undef, Nat.reducePow, Nat.reduceDiv, Nat.reduceMod, h0']
      refine hB _ _ _ ?_
      simp only [symA, go_opsd, symB, wantedX, X.put, X.look, Arg.ev, keepOf, restrict, evs, evO, initEnv, xres, tup, noTup, cls, quiet, Nat.reduceAdd, Nat.reduceEqDiff, ↓reduceIte, reduceCtorEq, goInt, exists_eq_left', eq_self, Int.reduceLT, Int.reduceLE, Int.reduceEq, Int.reduceNeg, Int.reduceAdd, Int.reduceSub, forall_const, ne_eq, undef, Nat.reducePow, Nat.reduceDiv, Nat.reduceMod, xi_bstr, hs]
      exact hQ _ _ _ rfl ⟨⟨s, rfl, hsz⟩, hnx⟩
  obtain ⟨r, m', hc, ⟨s, rfl, hs⟩, hf⟩ := key
  exact ⟨s, m', hc, hs, hf⟩

theorem rpack_spec {m : Mem} {n : Bool} {t : ByteArray} {b : Nat} (hx : b < 18446744073709551616) (hl : t.size ≤ 200) : ∃ s m', Ca 24 [.agg ⟨(valL n t b)⟩] m (.string s) m' ∧ s.size = wgtV n t ∧ Nx m m' := by
  obtain ⟨m1, hm1⟩ : ∃ m1, m.push { cells := (valL n t b), rw := true, spare := none, kin := [] } = m1 := ⟨_, rfl⟩
  have g1 : m1.get m.next = some { cells := (valL n t b), rw := true, spare := none, kin := [] } := by rw [← hm1, push_self]
  have f1 : Nx m m1 := hm1 ▸ .push
  have n1 : m1.next = m.next + 1 := by rw [← hm1]; simp
  have b1 : ∀ c : Int, buildSliceE m1 [.int .u8 0] 1 1 [(0, .int .u8 c)] = some (.val (.slice (some ⟨m1.next, 0, none⟩) 1 1) (m1.push { cells := [.int .u8 c], rw := true, spare := none, kin := [] })) := fun c => buildSlice_one rfl
  have f2 : ∀ c : Int, Nx m1 (m1.push { cells := [.int .u8 c], rw := true, spare := none, kin := [] }) := fun c => .push
  have bs : ∀ c : Int, ∃ s, bstrE (m1.push { cells := [.int .u8 c], rw := true, spare := none, kin := [] }) (.slice (some ⟨m1.next, 0, none⟩) 1 1) = some (.val (.string s) (m1.push { cells := [.int .u8 c], rw := true, spare := none, kin := [] })) ∧ s.size = 1 :=
    fun c => bstr_row (n := 1) push_self rfl (by omega) (by simp)
  have hgp : ∀ c : Int, (m1.push { cells := [.int .u8 c], rw := true, spare := none, kin := [] }).get m.next = some { cells := (valL n t b), rw := true, spare := none, kin := [] } := fun c => (f2 c).get (by omega) (fun h => h) g1
  have hff : ∀ m, Ca 35 [U (b : Int)] m (Fl b) m := fun m => by
    have := ffrom_spec (m := m) (n := (b : Int))
    rwa [Int.toNat_natCast] at this
  cases n with
  | false =>
    obtain ⟨s, hs, hsz⟩ := bs 0
    have hadd := bin_sadd (m := m1.push { cells := [.int .u8 0], rw := true, spare := none, kin := [] }) (a := s) (b := t) (by omega)
    refine ⟨s ++ t, _, callX_of (call_go (F := _) rfl rfl fun Q hQ => ?_), by rw [size_append, hsz]; simp [wgtV], f1.comp (f2 0) fun _ _ h => h⟩
    simp only [symA, go_opsd, symB, wantedX, X.put, X.look, Arg.ev, keepOf, restrict, evs, evO, initEnv, xres, tup, noTup, cls, quiet, Nat.reduceAdd, Nat.reduceEqDiff, ↓reduceIte, reduceCtorEq, goInt, exists_eq_left', eq_self, Int.reduceLT, Int.reduceLE, Int.reduceEq, Int.reduceNeg, Int.reduceAdd, Int.reduceSub, forall_const, ne_eq, undef, Nat.reducePow, Nat.reduceDiv, Nat.reduceMod, hm1, g1, b1, xi_bstr, hs, hgp, hadd]
    refine hQ _ _ _ rfl ?_
    exact ⟨rfl, rfl⟩
  | true =>
    obtain ⟨s, hs, hsz⟩ := bs 1
    obtain ⟨t2, m3, k1, k2, k3⟩ := nrkey_spec (m := m1.push { cells := [.int .u8 1], rw := true, spare := none, kin := [] }) hx
    have hadd := bin_sadd (m := m3) (a := s) (b := t2) (by omega)
    have g3 := (k3.get (by simp) (fun h => h) (push_self (m := m1) (o := { cells := [.int .u8 1], rw := true, spare := none, kin := [] })))
    have g3' := k3.get (by simp; omega) (fun h => h) (hgp 1)
    obtain ⟨s', hs', hsz'⟩ := bstr_row (n := 1) g3 rfl (by omega) (by simp)
    have hss : s' = s := by
      have h1 := hs
      have h2 := hs'
      simp only [bstrE, xlen, xfirst, Option.bind_some] at h1 h2
      rw [if_neg (by omega)] at h1 h2
      simp [xload, g3, push_self, byteL] at h1 h2
      rw [← h1, ← h2]
    subst hss
    refine ⟨s' ++ t2, m3, callX_of (call_go (F := _) rfl rfl fun Q hQ => ?_), by rw [size_append, hsz, k2]; simp [wgtV], (f1.comp (f2 1) fun _ _ h => h).comp k3 fun _ _ h => h⟩
    simp only [symA, go_opsd, symB, wantedX, X.put, X.look, Arg.ev, keepOf, restrict, evs, evO, initEnv, xres, tup, noTup, cls, quiet, Nat.reduceAdd, Nat.reduceEqDiff, ↓reduceIte, reduceCtorEq, goInt, exists_eq_left', eq_self, Int.reduceLT, Int.reduceLE, Int.reduceEq, Int.reduceNeg, Int.reduceAdd, Int.reduceSub, forall_const, ne_eq, undef, Nat.reducePow, Nat.reduceDiv, Nat.reduceMod, hm1, g1, b1, xi_bstr, hs, hgp, goDV3c (hff _), goDV3c k1, hs', g3', hadd]
    refine hQ _ _ _ rfl ?_
    exact ⟨rfl, rfl⟩
end Go.Proofs.Ytlldfkapaeidoaa
