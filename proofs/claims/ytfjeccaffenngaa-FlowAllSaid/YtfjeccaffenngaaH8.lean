/-
  Own work. By way of others: what the three loops come to; a search through rooms. Labels in labels; numbers compared; where it leaks.
-/
import Derived.Test.YtfjeccaffenngaaG5
import Derived.Test.YtfjeccaffenngaaH6
namespace Go.Proofs.Ytfjeccaffenngaa
open Go X
set_option maxRecDepth 100000
set_option linter.unusedVariables false
set_option linter.unusedSimpArgs false

theorem rowU_eq {n b i : Nat} {W : Nat → Nat → Bool} : ∀ j a c, rowU n W b i j a c = if a = i ∧ c < j then (W i c || (W i b && W b c)) else W a c
  | 0, a, c => by simp [rowU]
  | j + 1, a, c => by
    rw [rowU_succ]
    unfold updK
    by_cases h : a = i ∧ c = j
    · obtain ⟨rfl, rfl⟩ := h
      rw [if_pos ⟨rfl, rfl⟩, if_pos ⟨rfl, by omega⟩]
      rw [rowU_eq c a c, rowU_eq c a b, rowU_eq c b c, if_neg (by omega), if_neg (show ¬(b = a ∧ c < c) by omega)]
      split
      · cases W a c <;> cases W a b <;> cases W b c <;> cases W b b <;> rfl
      · rfl
    · rw [if_neg h, rowU_eq j a c]
      by_cases h2 : a = i ∧ c < j
      · rw [if_pos h2, if_pos ⟨h2.1, by omega⟩]
      · rw [if_neg h2, if_neg (by omega)]
theorem colU_eq {n b : Nat} {W : Nat → Nat → Bool} : ∀ j a c, colU n W b j a c = if a < j ∧ c < n then (W a c || (W a b && W b c)) else W a c
  | 0, a, c => by simp [colU]
  | j + 1, a, c => by
    rw [colU_succ, rowU_eq]
    by_cases h : a = j ∧ c < n
    · obtain ⟨rfl, hc⟩ := h
      rw [if_pos ⟨rfl, hc⟩, if_pos ⟨by omega, hc⟩]
      rw [colU_eq a a c, colU_eq a a b, colU_eq a b c, if_neg (by omega), if_neg (by omega)]
      split
      · cases W a c <;> cases W a b <;> cases W b c <;> cases W b b <;> rfl
      · rfl
    · rw [if_neg h, colU_eq j a c]
      by_cases h2 : a < j ∧ c < n
      · rw [if_pos h2, if_pos ⟨by omega, h2.2⟩]
      · rw [if_neg h2, if_neg (by omega)]

theorem allU_up {n : Nat} {W : Nat → Nat → Bool} {a c : Nat} (h : W a c = true) : ∀ j, allU n W j a c = true
  | 0 => by simpa [allU] using h
  | j + 1 => by
    rw [allU_succ, colU_eq]
    have := allU_up (n := n) h j
    split
    · rw [this]; rfl
    · exact this
/-- Closed through those ahead. -/
theorem allU_thru {n : Nat} {W : Nat → Nat → Bool} : ∀ j, j ≤ n → ∀ b i k, b < j → i < n → k < n → allU n W j i b = true → allU n W j b k = true → allU n W j i k = true
  | 0, _, b, i, k, hb, _, _, _, _ => by omega
  | j + 1, hj, b, i, k, hb, hi, hk, h1, h2 => by
    have ih := allU_thru (n := n) (W := W) j (by omega)
    rw [allU_succ] at h1 h2 ⊢
    rw [colU_eq, if_pos ⟨hi, by omega⟩] at h1
    rw [colU_eq, if_pos ⟨by omega, hk⟩] at h2
    rw [colU_eq, if_pos ⟨hi, hk⟩]
    generalize hA : allU n W j = A at h1 h2 ih ⊢
    rw [Bool.or_eq_true, Bool.and_eq_true] at h1 h2 ⊢
    by_cases hbj : b = j
    · subst hbj
      have e1 : A i b = true := by rcases h1 with h | ⟨h, _⟩ <;> exact h
      have e2 : A b k = true := by rcases h2 with h | ⟨_, h⟩ <;> exact h
      exact .inr ⟨e1, e2⟩
    · have hb' : b < j := by omega
      rcases h1 with h1 | ⟨h1, h1'⟩ <;> rcases h2 with h2 | ⟨h2, h2'⟩
      · exact .inl (ih b i k hb' hi hk h1 h2)
      · exact .inr ⟨ih b i j hb' hi (by omega) h1 h2, h2'⟩
      · exact .inr ⟨h1, ih b j k hb' (by omega) hk h1' h2⟩
      · exact .inr ⟨h1, h2'⟩
theorem allU_trans {n : Nat} {W : Nat → Nat → Bool} {b i k : Nat} (hb : b < n) (hi : i < n) (hk : k < n) (h1 : allU n W n i b = true) (h2 : allU n W n b k = true) : allU n W n i k = true :=
  allU_thru n (Nat.le_refl _) b i k hb hi hk h1 h2
/-- What is closed stays closed. -/
theorem allU_keeps {n : Nat} {W : Nat → Nat → Bool} {S : Nat → Bool} (h : ∀ a c, a < n → c < n → W a c = true → S a = true → S c = true) : ∀ j, j ≤ n → ∀ a c, a < n → c < n → allU n W j a c = true → S a = true → S c = true
  | 0, _, a, c, ha, hc, h1, h2 => h a c ha hc (by simpa [allU] using h1) h2
  | j + 1, hj, a, c, ha, hc, h1, h2 => by
    have ih := allU_keeps (n := n) h j (by omega)
    rw [allU_succ, colU_eq, if_pos ⟨ha, hc⟩, Bool.or_eq_true, Bool.and_eq_true] at h1
    rcases h1 with h1 | ⟨h1, h1'⟩
    · exact ih a c ha hc h1 h2
    · exact ih j c (by omega) hc h1' (ih a j ha (by omega) h1 h2)

/-- A search through rooms. -/
structure Rch (n i : Nat) (E W : Nat → Nat → Bool) (S : Nat → Bool) (todo : List Nat) (q j : Nat) : Prop where
  mem : ∀ y, y ∈ todo ↔ (y < n ∧ S y = true)
  nd : todo.Nodup
  start : i ∈ todo
  way : ∀ y ∈ todo, W i y = true
  closed : ∀ (a y c : Nat), todo[a]? = some y → c < n → (a < q ∨ (a = q ∧ c < j)) → E y c = true → S c = true
def stepS (E : Nat → Nat → Bool) (S : Nat → Bool) (x j : Nat) : Nat → Bool := fun c => if c = j then (S j || E x j) else S c
def stepT (E : Nat → Nat → Bool) (S : Nat → Bool) (todo : List Nat) (x j : Nat) : List Nat := bif !S j && E x j then todo ++ [j] else todo
section
variable {n i q j x : Nat} {E W : Nat → Nat → Bool} {S : Nat → Bool} {todo : List Nat}
theorem Rch.len (h : Rch n i E W S todo q j) : todo.length ≤ n := len_bound n todo (fun x hx => ((h.mem x).1 hx).1) h.nd
theorem Rch.begin_ (hi : i < n) (hW : W i i = true) : Rch n i E W (fun c => if c = i then true else false) [i] 0 0 := by
  refine ⟨fun y => ?_, by simp, by simp, by simpa using hW, fun a y c _ _ h _ => by omega⟩
  by_cases hy : y = i
  · subst hy; simp [hi]
  · simp [hy]
theorem Rch.step (h : Rch n i E W S todo q j) (hx : todo[q]? = some x) (hj : j < n) (hEW : ∀ a c, a < n → c < n → E a c = true → W i a = true → W i c = true) : Rch n i E W (stepS E S x j) (stepT E S todo x j) q (j + 1) ∧ (stepT E S todo x j)[q]? = some x := by
  have hxm := List.mem_of_getElem? hx
  have hql := (List.getElem?_eq_some_iff.1 hx).1
  unfold stepS stepT
  cases hS : S j with
  | true =>
    have e : (fun c => if c = j then (true || E x j) else S c) = S := by
      funext c
      by_cases hc : c = j
      · subst hc; simp [hS]
      · simp [hc]
    simp only [Bool.not_true, Bool.false_and, cond_false]
    rw [e]
    refine ⟨⟨h.mem, h.nd, h.start, h.way, fun a y c ha hc hlt hE => ?_⟩, hx⟩
    by_cases hcj : c = j
    · subst hcj; exact hS
    · exact h.closed a y c ha hc (by omega) hE
  | false =>
    cases hE : E x j with
    | false =>
      have e : (fun c => if c = j then (false || false) else S c) = S := by
        funext c
        by_cases hc : c = j
        · subst hc; simp [hS]
        · simp [hc]
      simp only [Bool.not_false, Bool.true_and, cond_false]
      rw [e]
      refine ⟨⟨h.mem, h.nd, h.start, h.way, fun a y c ha hc hlt hE2 => ?_⟩, hx⟩
      by_cases hq : a = q ∧ c = j
      · obtain ⟨rfl, rfl⟩ := hq
        rw [hx] at ha
        cases ha
        rw [hE] at hE2; cases hE2
      · exact h.closed a y c ha hc (by omega) hE2
    | true =>
      have hjn : j ∉ todo := fun hm => by rw [((h.mem j).1 hm).2] at hS; cases hS
      simp only [Bool.not_false, Bool.true_and, cond_true, Bool.false_or]
      refine ⟨⟨fun y => ?_, ?_, List.mem_append.2 (.inl h.start), fun y hy => ?_, fun a y c ha hc hlt hE2 => ?_⟩, by rw [List.getElem?_append_left hql]; exact hx⟩
      · rw [List.mem_append, h.mem, List.mem_singleton]
        by_cases hy : y = j
        · subst hy; simp [hj]
        · simp [hy]
      · rw [List.nodup_append]
        exact ⟨h.nd, by simp, fun a ha b hb => by simp at hb; subst hb; exact fun e => hjn (e ▸ ha)⟩
      · rcases List.mem_append.1 hy with hy | hy
        · exact h.way y hy
        · simp at hy; subst hy
          exact hEW x y ((h.mem x).1 hxm).1 hj hE (h.way x hxm)
      · by_cases hcj : c = j
        · rw [if_pos hcj]
        · rw [if_neg hcj]
          by_cases hal : a < todo.length
          · rw [List.getElem?_append_left hal] at ha
            exact h.closed a y c ha hc (by omega) hE2
          · omega
theorem Rch.next (h : Rch n i E W S todo q n) : Rch n i E W S todo (q + 1) 0 :=
  ⟨h.mem, h.nd, h.start, h.way, fun a y c ha hc hlt hE => h.closed a y c ha hc (by omega) hE⟩
end

/-! ## The ways between rooms, found by a search -/
def edge (T : Tb) (rooms : List (List Int)) (a c : Nat) : Bool := anyT T (rooms[a]?.getD []) (rooms[c]?.getD [])
def wayA (T : Tb) (rooms : List (List Int)) : Nat → Nat → Bool := allU rooms.length (way0 T rooms) rooms.length
theorem way_self {T : Tb} {rooms : List (List Int)} {i : Nat} : wayA T rooms i i = true := allU_up (by unfold way0; simp) _
theorem way_edge {T : Tb} {rooms : List (List Int)} {i a c : Nat} (hi : i < rooms.length) (ha : a < rooms.length) (hc : c < rooms.length) (hE : edge T rooms a c = true) (h : wayA T rooms i a = true) : wayA T rooms i c = true := by
  refine allU_trans ha hi hc h (allU_up ?_ _)
  unfold way0
  rw [show anyT T (rooms[a]?.getD []) (rooms[c]?.getD []) = true from hE, Bool.or_true]
theorem Rch.done {i : Nat} {T : Tb} {rooms : List (List Int)} {S : Nat → Bool} {todo : List Nat} (h : Rch rooms.length i (edge T rooms) (wayA T rooms) S todo todo.length 0) {j : Nat} (hj : j < rooms.length) : S j = wayA T rooms i j := by
  have hi := ((h.mem i).1 h.start)
  cases hS : S j with
  | true => exact (h.way j ((h.mem j).2 ⟨hj, hS⟩)).symm
  | false =>
    cases hW : wayA T rooms i j with
    | false => rfl
    | true =>
      exfalso
      have := allU_keeps (n := rooms.length) (W := way0 T rooms) (S := S) (fun a c ha hc hw hs => by
        unfold way0 at hw
        rw [Bool.or_eq_true, decide_eq_true_eq] at hw
        rcases hw with rfl | hw
        · exact hs
        · obtain ⟨q, hq⟩ := List.mem_iff_getElem?.1 ((h.mem a).2 ⟨ha, hs⟩)
          exact h.closed q a c hq hc (.inl (List.getElem?_eq_some_iff.1 hq).1) hw) rooms.length (Nat.le_refl _) i j hi.1 hj hW hi.2
      rw [this] at hS; cases hS
end Go.Proofs.Ytfjeccaffenngaa

namespace Go.Proofs.Ytfjeccaffenngaa.X
open Go
set_option linter.unusedVariables false
set_option linter.unusedSimpArgs false
section
variable {P : Program} {t e : TypeId} {d : Nat} {a b a' b' : Int} {m : Mem}
theorem ans_part {x : Value} {cs : Array Value} {k : Nat} (he : P.underlying e = some (.int .i64)) (h : cs[k]? = some x) : ans P (part e cs k) = some x := by
  have hg : ans P (isAgg e) = some false := by
    unfold isAgg
    simp only [ans_bind, ans_underlying he, Option.bind_some]
    rfl
  unfold part
  simp only [ans_bind, hg, Option.bind_some, Bool.false_eq_true, if_false, h]
  rfl
theorem ans_equal_arr2 (hu : P.underlying t = some (.array 2 e)) (he : P.underlying e = some (.int .i64)) (hs : ans P (sizeOf e) = some 1) :
    ans P (Op.equalIn (d + 2) t (.agg ⟨[.int .i64 a, .int .i64 b]⟩) (.agg ⟨[.int .i64 a', .int .i64 b']⟩)) = some (a == a' && b == b') := by
  have q0 := ans_part (P := P) (k := 0) (cs := ⟨[.int .i64 a, .int .i64 b]⟩) he rfl
  have q1 := ans_part (P := P) (k := 1) (cs := ⟨[.int .i64 a, .int .i64 b]⟩) he rfl
  have r0 := ans_part (P := P) (k := 0) (cs := ⟨[.int .i64 a', .int .i64 b']⟩) he rfl
  have r1 := ans_part (P := P) (k := 1) (cs := ⟨[.int .i64 a', .int .i64 b']⟩) he rfl
  have e1 := ans_equal_int (P := P) (d := d) (k := .i64) (a := a) (b := a') he
  have e2 := ans_equal_int (P := P) (d := d) (k := .i64) (a := b) (b := b') he
  rw [Op.equalIn]
  simp only [ans_bind, ans_underlying hu, Option.bind_some, hs]
  rw [Std.Legacy.Range.forIn_eq_forIn_range']
  simp only [Std.Legacy.Range.size, List.range', List.forIn_cons, List.forIn_nil, ans_bind, Nat.zero_mul, Nat.one_mul, Nat.zero_add, Nat.mul_one, q0, q1, r0, r1, e1, e2, Option.bind_some]
  cases h1 : (a == a') <;> cases h2 : (b == b') <;> simp [ans_pure, ans_bind, q0, q1, r0, r1, e1, e2, h1, h2]
theorem bin_arr2 {ne : Bool} (hu : P.underlying t = some (.array 2 e)) (he : P.underlying e = some (.int .i64)) (hs : ans P (sizeOf e) = some 1) (hg : P.eqGuardType P.depth t = false) :
    binE P .neq t (.agg ⟨[.int .i64 a, .int .i64 b]⟩) (.agg ⟨[.int .i64 a', .int .i64 b']⟩) m = some (.val (.bool (!(a == a' && b == b'))) m) := by
  unfold binE
  rw [if_pos (by simp [plain, plainV]), ans_bind]
  have hgd : ans P (eqGuard .neq t (.const (.agg ⟨[.int .i64 a, .int .i64 b]⟩)) (.const (.agg ⟨[.int .i64 a', .int .i64 b']⟩)) (.agg ⟨[.int .i64 a, .int .i64 b]⟩) (.agg ⟨[.int .i64 a', .int .i64 b']⟩)) = some () := by
    unfold eqGuard
    have hp : ans P program = some P := rfl
    simp [ans_bind, hp, hg, ans_pure]
  rw [hgd]
  simp only [Option.bind_some, binOp, ans_bind, Op.equal]
  rw [show Op.maxDepth = 9998 + 2 from rfl, ans_equal_arr2 hu he hs]
  simp [ans_pure, plain, plainV]
end
end Go.Proofs.Ytfjeccaffenngaa.X
namespace Go.Proofs.Ytfjeccaffenngaa
open Go X
set_option maxRecDepth 100000
set_option linter.unusedVariables false
set_option linter.unusedSimpArgs false

def inL (a b : List Int) : Bool := a.all (hasL b)
section
variable {b b' : Nat} {m : Mem} {v va vb : Value} {us ws : List Int}
theorem in1_spec {p : Nat} {x : Int} (h : RdU b m vb ws) (hl : ws.length ≤ 4611686018427387903) (hg : m.get p = some { cells := [vb], rw := true, spare := none, kin := [] }) : Ca 58 [U x, Pt p] m (.bool (!hasL ws x)) m := by
  refine callX_of (call_go (F := _) rfl rfl fun Q hQ => ?_)
  obtain ⟨q, c, rfl⟩ := rdu_slice h
  simp only [symA, go_opsd, symB, wantedX, X.put, X.look, Arg.ev, keepOf, restrict, evs, evO, initEnv, xres, tup, noTup, cls, quiet, Nat.reduceAdd, Nat.reduceEqDiff, ↓reduceIte, reduceCtorEq, goInt, exists_eq_left', eq_self, Int.reduceLT, Int.reduceLE, Int.reduceEq, Int.reduceNeg, Int.reduceAdd, Int.reduceSub, forall_const, ne_eq, undef, Nat.reducePow, Nat.reduceDiv, Nat.reduceMod, hg, goR_call (has_spec (t := x) h hl)]
  exact hQ _ _ _ rfl ⟨rfl, rfl⟩
theorem in_spec (ha : RdU b m va us) (hb : RdU b m vb ws) (hm : b ≤ m.next) (hla : us.length ≤ 4611686018427387903) (hlb : ws.length ≤ 4611686018427387903) : ∃ m', Ca 45 [va, vb] m (.bool (inL us ws)) m' ∧ Nx m m' := by
  obtain ⟨q, c, rfl⟩ := rdu_slice hb
  obtain ⟨m1, hm1⟩ : ∃ m1, m.push { cells := [.slice q ws.length c], rw := true, spare := none, kin := [] } = m1 := ⟨_, rfl⟩
  have f1 : Nx m m1 := hm1 ▸ .push
  have g1 : m1.get m.next = some { cells := [.slice q ws.length c], rw := true, spare := none, kin := [] } := by rw [← hm1, push_self]
  have hb1 := hb.fr f1 hm (fun _ h => h.elim)
  have k1 := containsF_spec (g := 58) (cap := [Pt m.next]) (q := fun x => !hasL ws x) (ha.fr f1 hm (fun _ h => h.elim)) hla (fun x _ => in1_spec (x := x) hb1 hlb g1)
  refine ⟨m1, callX_of (call_go (F := _) rfl rfl fun Q hQ => ?_), f1⟩
  have e : inL us ws = !(us.any fun x => !hasL ws x) := by
    unfold inL
    rw [List.not_any_eq_all_not]
    simp
  rw [e] at hQ
  simp only [symA, go_opsd, symB, wantedX, X.put, X.look, Arg.ev, keepOf, restrict, evs, evO, initEnv, xres, tup, noTup, cls, quiet, Nat.reduceAdd, Nat.reduceEqDiff, ↓reduceIte, reduceCtorEq, goInt, exists_eq_left', eq_self, Int.reduceLT, Int.reduceLE, Int.reduceEq, Int.reduceNeg, Int.reduceAdd, Int.reduceSub, forall_const, ne_eq, undef, Nat.reducePow, Nat.reduceDiv, Nat.reduceMod, hm1, makeFunc_one, goR_call k1]
  exact hQ _ _ _ rfl ⟨rfl, rfl⟩
theorem rin_spec (ha : RdU b m va us) (hb : RdU b' m vb ws) (hla : us.length ≤ 4611686018427387903) (hlb : ws.length ≤ 4611686018427387903) : Ca 24 [va, vb] m (.bool (inL us ws)) m := by
  refine callX_of (call_go (F := _) rfl rfl fun Q hQ => ?_)
  obtain ⟨p, c, rfl⟩ := rdu_slice ha
  obtain ⟨q, d, rfl⟩ := rdu_slice hb
  simp only [symA, go_opsd, symB, wantedX, X.put, X.look, Arg.ev, keepOf, restrict, evs, evO, initEnv, xres, tup, noTup, cls, quiet, Nat.reduceAdd, Nat.reduceEqDiff, ↓reduceIte, reduceCtorEq, goInt, exists_eq_left', eq_self, Int.reduceLT, Int.reduceLE, Int.reduceEq, Int.reduceNeg, Int.reduceAdd, Int.reduceSub, forall_const, ne_eq, undef, Nat.reducePow, Nat.reduceDiv, Nat.reduceMod]
  refine loop_go (fun j e m' => m' = m ∧ ∃ i : Nat, i ≤ us.length ∧ j = us.length - i ∧ inL us ws = (us.drop i).all (hasL ws) ∧ e = [(0, .slice p us.length c), (1, .slice q ws.length d), (5, I i)]) us.length ⟨rfl, 0, by omega, rfl, rfl, rfl⟩ ?_
  rintro j e m' N' B' hN hB ⟨rfl, i, hi, rfl, hix, rfl⟩
  by_cases hlt : i < us.length
  · have hlt' : (i : Int) < (us.length : Int) := by omega
    obtain ⟨x, hx⟩ : ∃ x, us[i]? = some x := ⟨_, List.getElem?_eq_getElem hlt⟩
    obtain ⟨a, c', o, hva, ho, hc⟩ := rdu_at ha hx
    cases hva
    have w1 : IntKind.i64.wrap ((i : Int) + 1) = ((i + 1 : Nat) : Int) := by rw [wrap_i64 (by omega) (by omega)]; omega
    have hd : us.drop i = x :: us.drop (i + 1) := by
      obtain ⟨_, rfl⟩ := List.getElem?_eq_some_iff.1 hx
      exact List.drop_eq_getElem_cons hlt
    rw [hd, List.all_cons] at hix
    have k1 := rhasL_spec (g := x) hb hlb
    cases hq : hasL ws x with
    | true =>
      rw [hq] at k1
      rw [hq, Bool.true_and] at hix
      simp only [symA, go_opsd, symB, wantedX, X.put, X.look, Arg.ev, keepOf, restrict, evs, evO, initEnv, xres, tup, noTup, cls, quiet, Nat.reduceAdd, Nat.reduceEqDiff, ↓reduceIte, reduceCtorEq, goInt, exists_eq_left', eq_self, Int.reduceLT, Int.reduceLE, Int.reduceEq, Int.reduceNeg, Int.reduceAdd, Int.reduceSub, forall_const, ne_eq, undef, Nat.reducePow, Nat.reduceDiv, Nat.reduceMod, hlt, hlt', ho, hc, goR_call k1, w1]
      exact hN _ _ (us.length - (i + 1)) (by omega) ⟨rfl, i + 1, by omega, rfl, hix, rfl⟩
    | false =>
      rw [hq] at k1
      rw [hq, Bool.false_and] at hix
      rw [hix] at hQ
      simp only [symA, go_opsd, symB, wantedX, X.put, X.look, Arg.ev, keepOf, restrict, evs, evO, initEnv, xres, tup, noTup, cls, quiet, Nat.reduceAdd, Nat.reduceEqDiff, ↓reduceIte, reduceCtorEq, goInt, exists_eq_left', eq_self, Int.reduceLT, Int.reduceLE, Int.reduceEq, Int.reduceNeg, Int.reduceAdd, Int.reduceSub, forall_const, ne_eq, undef, Nat.reducePow, Nat.reduceDiv, Nat.reduceMod, hlt, hlt', ho, hc, goR_call k1]
      exact hQ _ _ _ rfl ⟨rfl, rfl⟩
  · have hlt' : ¬ (i : Int) < (us.length : Int) := by omega
    rw [List.drop_eq_nil_of_le (by omega)] at hix
    rw [hix] at hQ
    simp only [symA, go_opsd, symB, wantedX, X.put, X.look, Arg.ev, keepOf, restrict, evs, evO, initEnv, xres, tup, noTup, cls, quiet, Nat.reduceAdd, Nat.reduceEqDiff, ↓reduceIte, reduceCtorEq, goInt, exists_eq_left', eq_self, Int.reduceLT, Int.reduceLE, Int.reduceEq, Int.reduceNeg, Int.reduceAdd, Int.reduceSub, forall_const, ne_eq, undef, Nat.reducePow, Nat.reduceDiv, Nat.reduceMod, hlt']
    refine hB _ _ _ ?_
    simp only [symA, go_opsd, symB, wantedX, X.put, X.look, Arg.ev, keepOf, restrict, evs, evO, initEnv, xres, tup, noTup, cls, quiet, Nat.reduceAdd, Nat.reduceEqDiff, ↓reduceIte, reduceCtorEq, goInt, exists_eq_left', eq_self, Int.reduceLT, Int.reduceLE, Int.reduceEq, Int.reduceNeg, Int.reduceAdd, Int.reduceSub, forall_const, ne_eq, undef, Nat.reducePow, Nat.reduceDiv, Nat.reduceMod]
    exact hQ _ _ _ rfl ⟨rfl, rfl⟩
theorem ints_same {xs : List Int} (ha : RdS b m 1 va ((xs.map I).map fun x => [x])) (hb : RdS b' m 1 vb ((xs.map I).map fun x => [x])) (hl : xs.length ≤ 4611686018427387903) : Ca 25 [va, vb] m (.bool true) m := by
  refine callX_of (call_go (F := _) rfl rfl fun Q hQ => ?_)
  obtain ⟨p, c, rfl⟩ := ha.slice
  obtain ⟨q, d, rfl⟩ := hb.slice
  simp only [List.length_map] at ha hb ⊢
  simp only [symA, go_opsd, symB, wantedX, X.put, X.look, Arg.ev, keepOf, restrict, evs, evO, initEnv, xres, tup, noTup, cls, quiet, Nat.reduceAdd, Nat.reduceEqDiff, ↓reduceIte, reduceCtorEq, goInt, exists_eq_left', eq_self, Int.reduceLT, Int.reduceLE, Int.reduceEq, Int.reduceNeg, Int.reduceAdd, Int.reduceSub, forall_const, ne_eq, undef, Nat.reducePow, Nat.reduceDiv, Nat.reduceMod]
  refine loop_go (fun j e m' => m' = m ∧ ∃ i : Nat, i ≤ xs.length ∧ j = xs.length - i ∧ e = [(0, .slice p xs.length c), (1, .slice q xs.length d), (5, I i)]) xs.length ⟨rfl, 0, by omega, rfl, rfl⟩ ?_
  rintro j e m' N' B' hN hB ⟨rfl, i, hi, rfl, rfl⟩
  by_cases hlt : i < xs.length
  · have hlt' : (i : Int) < (xs.length : Int) := by omega
    obtain ⟨x, hx⟩ : ∃ x, xs[i]? = some x := ⟨_, List.getElem?_eq_getElem hlt⟩
    obtain ⟨a, c', o, hva, ho, hc⟩ := ha.at1 (i := i) (x := I x) (by simp [hx])
    rw [List.length_map] at hva
    cases hva
    obtain ⟨a2, c2, o2, hva2, ho2, hc2⟩ := hb.at1 (i := i) (x := I x) (by simp [hx])
    rw [List.length_map] at hva2
    cases hva2
    have w1 : IntKind.i64.wrap ((i : Int) + 1) = ((i + 1 : Nat) : Int) := by rw [wrap_i64 (by omega) (by omega)]; omega
    simp only [symA, go_opsd, symB, wantedX, X.put, X.look, Arg.ev, keepOf, restrict, evs, evO, initEnv, xres, tup, noTup, cls, quiet, Nat.reduceAdd, Nat.reduceEqDiff, ↓reduceIte, reduceCtorEq, goInt, exists_eq_left', eq_self, Int.reduceLT, Int.reduceLE, Int.reduceEq, Int.reduceNeg, Int.reduceAdd, Int.reduceSub, forall_const, ne_eq, undef, Nat.reducePow, Nat.reduceDiv, Nat.reduceMod, hlt, hlt', ho, hc, ho2, hc2, w1]
    exact hN _ _ (xs.length - (i + 1)) (by omega) ⟨rfl, i + 1, by omega, rfl, rfl⟩
  · have hlt' : ¬ (i : Int) < (xs.length : Int) := by omega
    simp only [symA, go_opsd, symB, wantedX, X.put, X.look, Arg.ev, keepOf, restrict, evs, evO, initEnv, xres, tup, noTup, cls, quiet, Nat.reduceAdd, Nat.reduceEqDiff, ↓reduceIte, reduceCtorEq, goInt, exists_eq_left', eq_self, Int.reduceLT, Int.reduceLE, Int.reduceEq, Int.reduceNeg, Int.reduceAdd, Int.reduceSub, forall_const, ne_eq, undef, Nat.reducePow, Nat.reduceDiv, Nat.reduceMod, hlt']
    refine hB _ _ _ ?_
    simp only [symA, go_opsd, symB, wantedX, X.put, X.look, Arg.ev, keepOf, restrict, evs, evO, initEnv, xres, tup, noTup, cls, quiet, Nat.reduceAdd, Nat.reduceEqDiff, ↓reduceIte, reduceCtorEq, goInt, exists_eq_left', eq_self, Int.reduceLT, Int.reduceLE, Int.reduceEq, Int.reduceNeg, Int.reduceAdd, Int.reduceSub, forall_const, ne_eq, undef, Nat.reducePow, Nat.reduceDiv, Nat.reduceMod]
    exact hQ _ _ _ rfl ⟨rfl, rfl⟩
end

/-! ## Where it leaks -/
def leakB (W : Nat → Nat → Bool) (rooms : List (List Int)) (i c : Nat) : Bool := W i c && !inL (rooms[i]?.getD []) (rooms[c]?.getD [])
def leakRow (W : Nat → Nat → Bool) (rooms : List (List Int)) (i k : Nat) : List (Nat × Nat) := ((List.range k).filter (leakB W rooms i)).map fun c => (i, c)
def leakTo (W : Nat → Nat → Bool) (rooms : List (List Int)) (n i : Nat) : List (Nat × Nat) := (List.range i).flatMap fun a => leakRow W rooms a n
theorem leakRow_succ {W : Nat → Nat → Bool} {rooms : List (List Int)} {i k : Nat} : leakRow W rooms i (k + 1) = leakRow W rooms i k ++ (bif leakB W rooms i k then [(i, k)] else []) := by
  unfold leakRow
  rw [List.range_succ, List.filter_append, List.map_append, List.filter_cons, List.filter_nil]
  cases leakB W rooms i k <;> rfl
theorem leakTo_succ {W : Nat → Nat → Bool} {rooms : List (List Int)} {n i : Nat} : leakTo W rooms n (i + 1) = leakTo W rooms n i ++ leakRow W rooms i n := by
  unfold leakTo
  rw [List.range_succ, List.flatMap_append]
  simp
theorem leakRow_len {W : Nat → Nat → Bool} {rooms : List (List Int)} {i k : Nat} : (leakRow W rooms i k).length ≤ k := by
  unfold leakRow
  rw [List.length_map]
  exact Nat.le_trans (List.length_filter_le _ _) (by simp)
theorem leakTo_len {W : Nat → Nat → Bool} {rooms : List (List Int)} {n : Nat} : ∀ i, (leakTo W rooms n i).length ≤ i * n
  | 0 => by simp [leakTo]
  | i + 1 => by
    rw [leakTo_succ, List.length_append, Nat.add_mul]
    have := leakTo_len (W := W) (rooms := rooms) (n := n) i
    have := leakRow_len (W := W) (rooms := rooms) (i := i) (k := n)
    omega
abbrev rowP (p : Nat × Nat) : List Value := [I (p.1 : Int), I (p.2 : Int)]
def buildArrE (m : Mem) (zero : List Value) (size : Nat) (vs : List (Nat × Value)) : Option XR := (Instr.fill (fun i => some (i * size, size)) zero.toArray vs).bind fun cs => some (.val (.agg cs) m)
theorem xi_buildArr {P : Program} {e : Env} {m : Mem} {zero : List Value} {size : Nat} {ps : List (Nat × Arg)} : xi P e m (.buildArr zero size ps) = (xparts e ps).bind fun vs => buildArrE m zero size vs := (rfl)

def x19L1 : XCode := (.seq (.ops [⟨(some 28), none, .bin .lss 3 (.t 27) (.t 26)⟩] (some [1, 6, 8, 9, 21, 22, 26, 27, 28]))
      (.seq (.cond (.t 28)
       .skip
       (.exit 2))
      (.seq (.block 3
       (.seq (.ops [⟨(some 29), none, .move (.t 27)⟩,
         ⟨(some 10), none, .move (.t 29)⟩] (some [1, 6, 8, 9, 10, 21, 22, 26, 27]))
       (.seq (.opsd [(0, 0, ⟨(some 30), none, .move (.t 6)⟩),
         (1, 0, ⟨(some 31), none, .move (.t 9)⟩),
         (2, 3, ⟨(some 32), none, .indexAddr 1 (.t 30) (.t 31)⟩),
         (3, 7, ⟨(some 33), none, .load false 1 (.t 32)⟩),
         (4, 0, ⟨(some 34), none, .move (.t 10)⟩),
         (5, 31, ⟨(some 35), none, .indexAddr 1 (.t 33) (.t 34)⟩),
         (6, 63, ⟨(some 36), none, .load false 1 (.t 35)⟩),
         (7, 127, ⟨(some 37), none, .move (.t 36)⟩),
         (8, 255, ⟨(some 38), (some (37, true)), .move (.t 1)⟩),
         (9, 255, ⟨(some 39), (some (37, true)), .move (.t 9)⟩),
         (10, 1023, ⟨(some 40), (some (37, true)), .indexAddr 1 (.t 38) (.t 39)⟩),
         (11, 2047, ⟨(some 41), (some (37, true)), .load false 1 (.t 40)⟩),
         (12, 255, ⟨(some 42), (some (37, true)), .move (.t 1)⟩),
         (13, 255, ⟨(some 43), (some (37, true)), .move (.t 10)⟩),
         (14, 12543, ⟨(some 44), (some (37, true)), .indexAddr 1 (.t 42) (.t 43)⟩),
         (15, 28927, ⟨(some 45), (some (37, true)), .load false 1 (.t 44)⟩),
         (16, 65535, ⟨(some 46), (some (37, true)), .call (.c (.func (.func 45) #[] #[])) [(.t 41), (.t 45)]⟩),
         (17, 131071, ⟨(some 47), (some (37, true)), .un .not (.t 46)⟩),
         (18, 262143, ⟨(some 48), none, .pick (.t 37) (.t 47) (.c (.bool false))⟩)] (some [1, 6, 8, 9, 10, 21, 22, 26, 27, 48]))
       (.cond (.t 48)
        (.ops [⟨(some 49), none, .move (.t 8)⟩,
          ⟨(some 50), none, .move (.t 9)⟩,
          ⟨(some 51), none, .move (.t 10)⟩,
          ⟨(some 52), none, .buildArr [(.int .i64 0), (.int .i64 0)] 1 [(0, (.t 50)), (1, (.t 51))]⟩,
          ⟨(some 53), none, .buildSlice [(.int .i64 0), (.int .i64 0)] 2 1 [(0, (.t 52))]⟩,
          ⟨(some 54), none, .append 2 16 [(.int .i64 0), (.int .i64 0)] (.t 49) (.t 53)⟩,
          ⟨(some 8), none, .move (.t 54)⟩] (some [1, 6, 8, 9, 21, 22, 26, 27]))
        .skip))))
      (.ops [⟨(some 55), none, .bin .add 3 (.t 27) (.c (.int .i64 1))⟩,
        ⟨(some 27), none, .move (.t 55)⟩] (some [1, 6, 8, 9, 21, 22, 26, 27])))))
section
variable {b lo : Nat} {m m0 : Mem} {vr ov lv : Value} {rooms : List (List Int)} {W : Nat → Nat → Bool} {F F2 rids : List Nat} {i k : Nat} {Q N : Post} {B : Nat → Post} {l : List (Nat × Nat)}
theorem lbody_spec (hr : RdRooms b m vr rooms) (hbm : b ≤ m.next) (hn : rooms.length ≤ 8) (h6 : ∀ us ∈ rooms, us.length ≤ 6) (hM : MatAt m F ov rooms.length rooms.length lo rids W) (hO : Own3 2 F2 m lv (l.map rowP)) (hl : l.length ≤ 100) (hi : i < rooms.length) (hk : k < rooms.length)
    (h : ∀ m' F2' lv', Fm (fun z => z ∈ F2 ∨ m.next ≤ z) m m' → Own3 2 F2' m' lv' ((l ++ (bif leakB W rooms i k then [(i, k)] else [])).map rowP) → (∀ z ∈ F2', z ∈ F2 ∨ m.next ≤ z) → N [(1, vr), (6, ov), (8, lv'), (9, I i), (21, I rooms.length), (22, I i), (26, I rooms.length), (27, I ((k + 1 : Nat)))] m') :
    Go' Try.prog tabK [.code x19L1] [(1, vr), (6, ov), (8, lv), (9, I i), (21, I rooms.length), (22, I i), (26, I rooms.length), (27, I k)] m Q N B := by
  unfold x19L1
  have hk' : (k : Int) < (rooms.length : Int) := by omega
  have wk : IntKind.i64.wrap ((k : Int) + 1) = ((k + 1 : Nat) : Int) := by rw [wrap_i64 (by omega) (by omega)]; omega
  obtain ⟨oid, o, cap, id, rfl, ho, hc, hid, hrow⟩ := hM.at hi
  have q1 := cellsB_at (f := W i) hk
  obtain ⟨us, hus⟩ : ∃ us, rooms[i]? = some us := ⟨_, List.getElem?_eq_getElem hi⟩
  obtain ⟨ws, hws⟩ : ∃ ws, rooms[k]? = some ws := ⟨_, List.getElem?_eq_getElem hk⟩
  obtain ⟨a, c3, o3, p3, c3', hva3, ho3, hc3, hru⟩ := hr.at hus
  obtain ⟨a4, c4, o4, p4, c4', hva4, ho4, hc4, hrw⟩ := hr.at hws
  subst hva3
  cases hva4
  rw [ho3] at ho4
  cases ho4
  have hL : leakB W rooms i k = (W i k && !inL us ws) := by unfold leakB; rw [hus, hws]; rfl
  have idle : leakB W rooms i k = false → ∀ m', Nx m m' → N [(1, .slice (some a) rooms.length c3), (6, .slice (some ⟨oid, 0, some 0⟩) rooms.length cap), (8, lv), (9, I i), (21, I rooms.length), (22, I i), (26, I rooms.length), (27, I ((k + 1 : Nat)))] m' := fun hb m' f =>
    h m' F2 lv (f.mono fun _ _ h => h.elim) (by rw [hb]; simpa using hO.fr f (fun _ _ h => h)) (fun z hz => .inl hz)
  simp only [symA, symF, Nat.reduceOr, Nat.reduceAnd, Nat.reduceShiftLeft, Nat.zero_or, symB, wantedX, X.put, X.look, Arg.ev, keepOf, restrict, evs, evO, initEnv, xres, tup, noTup, cls, quiet, Nat.reduceAdd, Nat.reduceEqDiff, ↓reduceIte, reduceCtorEq, goInt, exists_eq_left', eq_self, Int.reduceLT, Int.reduceLE, Int.reduceEq, Int.reduceNeg, Int.reduceAdd, Int.reduceSub, forall_const, ne_eq, undef, Nat.reducePow, Nat.reduceDiv, Nat.reduceMod, hk']
  refine goF_of ?_
  cases h1 : W i k with
  | false =>
    rw [h1] at q1 hL
    have := idle hL m .refl
    simp only [symA, symF, Nat.reduceOr, Nat.reduceAnd, Nat.reduceShiftLeft, Nat.zero_or, symB, wantedX, X.put, X.look, Arg.ev, keepOf, restrict, evs, evO, initEnv, xres, tup, noTup, cls, quiet, Nat.reduceAdd, Nat.reduceEqDiff, ↓reduceIte, reduceCtorEq, goInt, exists_eq_left', eq_self, Int.reduceLT, Int.reduceLE, Int.reduceEq, Int.reduceNeg, Int.reduceAdd, Int.reduceSub, forall_const, ne_eq, undef, Nat.reducePow, Nat.reduceDiv, Nat.reduceMod, hi, hk, ho, hc, hrow, q1, wk]
    exact this
  | true =>
    rw [h1, Bool.true_and] at hL
    rw [h1] at q1
    obtain ⟨m2, k2, f2⟩ := in_spec hru hrw hbm (by have := h6 us (List.mem_of_getElem? hus); omega) (by have := h6 ws (List.mem_of_getElem? hws); omega)
    cases h2 : inL us ws with
    | true =>
      rw [h2] at k2 hL
      have := idle hL m2 f2
      simp only [symA, symF, Nat.reduceOr, Nat.reduceAnd, Nat.reduceShiftLeft, Nat.zero_or, symB, wantedX, X.put, X.look, Arg.ev, keepOf, restrict, evs, evO, initEnv, xres, tup, noTup, cls, quiet, Nat.reduceAdd, Nat.reduceEqDiff, ↓reduceIte, reduceCtorEq, goInt, exists_eq_left', eq_self, Int.reduceLT, Int.reduceLE, Int.reduceEq, Int.reduceNeg, Int.reduceAdd, Int.reduceSub, forall_const, ne_eq, undef, Nat.reducePow, Nat.reduceDiv, Nat.reduceMod, hi, hk, ho, hc, hrow, q1, ho3, hc3, hc4, goFV3c k2, wk]
      exact this
    | false =>
      rw [h2] at k2 hL
      obtain ⟨m3, hm3⟩ : ∃ m3, m2.push { cells := rowP (i, k), rw := true, spare := none, kin := [] } = m3 := ⟨_, rfl⟩
      have f3 : Nx m2 m3 := hm3 ▸ .push
      have hn3 : m3.next = m2.next + 1 := by rw [← hm3]; simp
      have hn2 := f2.next
      have ba : ∀ m : Mem, buildArrE m [I 0, I 0] 1 [(0, I (i : Int)), (1, I (k : Int))] = some (.val (.agg ⟨rowP (i, k)⟩) m) := fun m => by kernel_rfl
      have bs : buildSliceE m2 [I 0, I 0] 2 1 [(0, .agg ⟨rowP (i, k)⟩)] = some (.val (.slice (some ⟨m2.next, 0, none⟩) 1 1) m3) := by rw [← hm3]; kernel_rfl
      have g3 : m3.get m2.next = some { cells := rowP (i, k), rw := true, spare := none, kin := [] } := by rw [← hm3, push_self]
      obtain ⟨v', m4, F', s1, s2, s3, s4, s5⟩ := (hO.fr (f2.trans f3) (fun _ _ h => h)).append (bytes := 16) (zero := [I 0, I 0]) (new := rowP (i, k)) (vx := .slice (some ⟨m2.next, 0, none⟩) 1 1) rfl (by omega) rfl (by simp [xfirst, xload, g3]) rfl (by simp; omega) (by simp; omega)
      have fin := h m4 F' v' (((f2.trans f3).mono fun _ _ h => h.elim).trans (s3.mono fun _ _ h => .inl h)) (by rw [hL]; simpa using s2) (fun z hz => by
        rcases s5 z hz with h | h
        · exact .inl h
        · exact .inr (by omega))
      simp only [symA, symF, Nat.reduceOr, Nat.reduceAnd, Nat.reduceShiftLeft, Nat.zero_or, symB, wantedX, X.put, X.look, Arg.ev, keepOf, restrict, evs, evO, initEnv, xres, tup, noTup, cls, quiet, Nat.reduceAdd, Nat.reduceEqDiff, ↓reduceIte, reduceCtorEq, goInt, exists_eq_left', eq_self, Int.reduceLT, Int.reduceLE, Int.reduceEq, Int.reduceNeg, Int.reduceAdd, Int.reduceSub, forall_const, ne_eq, undef, Nat.reducePow, Nat.reduceDiv, Nat.reduceMod, hi, hk, ho, hc, hrow, q1, ho3, hc3, hc4, goFV3c k2, xi_buildArr, ba, bs, s1, wk]
      exact fin
end

section
variable {b t r : Nat} {m : Mem} {v : Value} {T : Tb} {rooms : List (List Int)}
theorem not_wrong {rooms : List (List Int)} (hw : wrongR rooms = false) {i : Nat} {us : List Int} (hi : rooms[i]? = some us) : us.length ≤ 6 := by
  refine right_len ?_
  unfold wrongR at hw
  rw [List.any_eq_false] at hw
  have := hw us (List.mem_of_getElem? hi)
  simpa using this
theorem leaks_bad (h : TabAt m t r T) (hv : RdRooms b m v rooms) (hq : Ca 18 [Pt t, v] m (.tuple #[.slice none 0 0, I 1]) m) : Ca 19 [Pt t, v] m (.tuple #[.slice none 0 0, I 1]) m := by
  refine callX_of (call_go (F := _) rfl rfl fun Q hQ => ?_)
  simp only [symA, go_opsd, symB, wantedX, X.put, X.look, Arg.ev, keepOf, restrict, evs, evO, initEnv, xres, tup, noTup, cls, quiet, Nat.reduceAdd, Nat.reduceEqDiff, ↓reduceIte, reduceCtorEq, goInt, exists_eq_left', eq_self, Int.reduceLT, Int.reduceLE, Int.reduceEq, Int.reduceNeg, Int.reduceAdd, Int.reduceSub, forall_const, ne_eq, undef, Nat.reducePow, Nat.reduceDiv, Nat.reduceMod, goR_call hq]
  exact hQ _ _ _ rfl ⟨rfl, rfl⟩
theorem leaks_spec (h : TabAt m t r T) (hT : T.Wf) (hv : RdRooms b m v rooms) (hb : b ≤ m.next) (hl : rooms.length ≤ 8) (hw : wrongR rooms = false) :
    Wc 19 [Pt t, v] m fun r' m' => Nx m m' ∧ ∃ F lv, r' = .tuple #[lv, I 0] ∧ Own3 2 F m' lv ((leakTo (wayA T rooms) rooms rooms.length rooms.length).map rowP) := by
  refine call_go (F := _) rfl rfl fun Q hQ => ?_
  obtain ⟨p, c, rfl⟩ := hv.slice
  simp only [symA, go_opsd, symB, wantedX, X.put, X.look, Arg.ev, keepOf, restrict, evs, evO, initEnv, xres, tup, noTup, cls, quiet, Nat.reduceAdd, Nat.reduceEqDiff, ↓reduceIte, reduceCtorEq, goInt, exists_eq_left', eq_self, Int.reduceLT, Int.reduceLE, Int.reduceEq, Int.reduceNeg, Int.reduceAdd, Int.reduceSub, forall_const, ne_eq, undef, Nat.reducePow, Nat.reduceDiv, Nat.reduceMod]
  refine goR_wp (flows_spec h hT hv hb hl hw) ?_
  rintro _ m1 ⟨f1, F, ov, rids, rfl, hM⟩
  have hn1 := f1.next
  have h6 : ∀ us ∈ rooms, us.length ≤ 6 := fun us hus => by
    obtain ⟨i, hi⟩ := List.mem_iff_getElem?.1 hus
    exact not_wrong hw hi
  have hlow := hM.low
  have hFlt := hM.own.lt
  simp only [symA, go_opsd, symB, wantedX, X.put, X.look, Arg.ev, keepOf, restrict, evs, evO, initEnv, xres, tup, noTup, cls, quiet, Nat.reduceAdd, Nat.reduceEqDiff, ↓reduceIte, reduceCtorEq, goInt, exists_eq_left', eq_self, Int.reduceLT, Int.reduceLE, Int.reduceEq, Int.reduceNeg, Int.reduceAdd, Int.reduceSub, forall_const, ne_eq, undef, Nat.reducePow, Nat.reduceDiv, Nat.reduceMod]
  refine loop_go (fun j e m' => Fm (fun z => m1.next ≤ z) m1 m' ∧ ∃ (i : Nat) (F2 : List Nat) (lv : Value), i ≤ rooms.length ∧ j = rooms.length - i ∧ Own3 2 F2 m' lv ((leakTo (wayA T rooms) rooms rooms.length i).map rowP) ∧ (∀ z ∈ F2, m1.next ≤ z) ∧
    e = [(1, .slice p rooms.length c), (6, ov), (8, lv), (21, I rooms.length), (22, I i)]) rooms.length ⟨.refl, 0, [], _, by omega, rfl, .inl (by unfold leakTo; exact .nil), by simp, rfl⟩ ?_
  rintro j e m2 N2 B2 hN2 hB2 ⟨f2, i, F2, lv, hi, rfl, hO, hF2, rfl⟩
  have hn2 := f2.next
  by_cases hlt : i < rooms.length
  · have hlt' : (i : Int) < (rooms.length : Int) := by omega
    have wi : IntKind.i64.wrap ((i : Int) + 1) = ((i + 1 : Nat) : Int) := by rw [wrap_i64 (by omega) (by omega)]; omega
    have hto := leakTo_len (W := wayA T rooms) (rooms := rooms) (n := rooms.length) i
    have hmul : i * rooms.length ≤ 64 := Nat.le_trans (Nat.mul_le_mul (by omega : i ≤ 8) hl) (by omega)
    simp only [symA, go_opsd, symB, wantedX, X.put, X.look, Arg.ev, keepOf, restrict, evs, evO, initEnv, xres, tup, noTup, cls, quiet, Nat.reduceAdd, Nat.reduceEqDiff, ↓reduceIte, reduceCtorEq, goInt, exists_eq_left', eq_self, Int.reduceLT, Int.reduceLE, Int.reduceEq, Int.reduceNeg, Int.reduceAdd, Int.reduceSub, forall_const, ne_eq, undef, Nat.reducePow, Nat.reduceDiv, Nat.reduceMod, hlt']
    refine loop_go (fun j e m' => Fm (fun z => m1.next ≤ z) m1 m' ∧ ∃ (k : Nat) (F2 : List Nat) (lv : Value), k ≤ rooms.length ∧ j = rooms.length - k ∧ Own3 2 F2 m' lv ((leakTo (wayA T rooms) rooms rooms.length i ++ leakRow (wayA T rooms) rooms i k).map rowP) ∧ (∀ z ∈ F2, m1.next ≤ z) ∧
      e = [(1, .slice p rooms.length c), (6, ov), (8, lv), (9, I i), (21, I rooms.length), (22, I i), (26, I rooms.length), (27, I k)]) rooms.length ⟨f2, 0, F2, lv, by omega, rfl, by simpa [leakRow] using hO, hF2, rfl⟩ ?_
    rintro j e m3 N3 B3 hN3 hB3 ⟨f3, k, F3, lv3, hk, rfl, hO3, hF3, rfl⟩
    have hn3 := f3.next
    by_cases hkt : k < rooms.length
    · have hro := leakRow_len (W := wayA T rooms) (rooms := rooms) (i := i) (k := k)
      refine lbody_spec (hv.fr (f1.comp f3 (fun z hz h => by omega) : Nx m m3) hb (fun _ h => h.elim)) (by omega) hl h6 (hM.fr f3 (fun z hz => ⟨fun hq => by have := hFlt z hq; omega, fun hq => by have := (hlow z hq).2.1; omega⟩)) hO3 (by rw [List.length_append]; omega) hlt hkt ?_
      intro m4 F4 lv4 f4 hO4 hF4
      refine hN3 _ _ (rooms.length - (k + 1)) (by omega) ⟨f3.trans (f4.mono fun z _ hz => ?_), k + 1, F4, lv4, by omega, rfl, ?_, fun z hz => ?_, rfl⟩
      · rcases hz with h | h
        · exact hF3 z h
        · omega
      · rw [leakRow_succ, ← List.append_assoc]; exact hO4
      · rcases hF4 z hz with h | h
        · exact hF3 z h
        · omega
    · have hkt' : ¬ (k : Int) < (rooms.length : Int) := by omega
      have hke : k = rooms.length := by omega
      subst hke
      simp only [symA, go_opsd, symB, wantedX, X.put, X.look, Arg.ev, keepOf, restrict, evs, evO, initEnv, xres, tup, noTup, cls, quiet, Nat.reduceAdd, Nat.reduceEqDiff, ↓reduceIte, reduceCtorEq, goInt, exists_eq_left', eq_self, Int.reduceLT, Int.reduceLE, Int.reduceEq, Int.reduceNeg, Int.reduceAdd, Int.reduceSub, forall_const, ne_eq, undef, Nat.reducePow, Nat.reduceDiv, Nat.reduceMod, hkt']
      refine hB3 _ _ _ ?_
      simp only [symA, go_opsd, symB, wantedX, X.put, X.look, Arg.ev, keepOf, restrict, evs, evO, initEnv, xres, tup, noTup, cls, quiet, Nat.reduceAdd, Nat.reduceEqDiff, ↓reduceIte, reduceCtorEq, goInt, exists_eq_left', eq_self, Int.reduceLT, Int.reduceLE, Int.reduceEq, Int.reduceNeg, Int.reduceAdd, Int.reduceSub, forall_const, ne_eq, undef, Nat.reducePow, Nat.reduceDiv, Nat.reduceMod, wi]
      exact hN2 _ _ (rooms.length - (i + 1)) (by omega) ⟨f3, i + 1, F3, lv3, by omega, rfl, by rw [leakTo_succ]; exact hO3, hF3, rfl⟩
  · have hlt' : ¬ (i : Int) < (rooms.length : Int) := by omega
    have hie : i = rooms.length := by omega
    subst hie
    simp only [symA, go_opsd, symB, wantedX, X.put, X.look, Arg.ev, keepOf, restrict, evs, evO, initEnv, xres, tup, noTup, cls, quiet, Nat.reduceAdd, Nat.reduceEqDiff, ↓reduceIte, reduceCtorEq, goInt, exists_eq_left', eq_self, Int.reduceLT, Int.reduceLE, Int.reduceEq, Int.reduceNeg, Int.reduceAdd, Int.reduceSub, forall_const, ne_eq, undef, Nat.reducePow, Nat.reduceDiv, Nat.reduceMod, hlt']
    refine hB2 _ _ _ ?_
    simp only [symA, go_opsd, symB, wantedX, X.put, X.look, Arg.ev, keepOf, restrict, evs, evO, initEnv, xres, tup, noTup, cls, quiet, Nat.reduceAdd, Nat.reduceEqDiff, ↓reduceIte, reduceCtorEq, goInt, exists_eq_left', eq_self, Int.reduceLT, Int.reduceLE, Int.reduceEq, Int.reduceNeg, Int.reduceAdd, Int.reduceSub, forall_const, ne_eq, undef, Nat.reducePow, Nat.reduceDiv, Nat.reduceMod]
    exact hQ _ _ _ rfl ⟨f1.comp f2 (fun z hz h => by omega), F2, lv, rfl, hO⟩
end
end Go.Proofs.Ytfjeccaffenngaa
