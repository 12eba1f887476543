/-
  Own work. 'append' in the abstract run and in the model.
-/
import Derived.Test.YtnlmnejellipdaaGreatXRel
namespace Go.Proofs.YtnlmnejellipdaaGreat.X
open Go
set_option linter.unusedVariables false
set_option linter.unusedSimpArgs false

/-! ## Zero values -/
theorem zerosOf_length (zero : List Value) : ∀ n, (zerosOf zero n).length = n * zero.length
  | 0 => by simp [zerosOf]
  | n + 1 => by simp [zerosOf, zerosOf_length zero n, Nat.succ_mul, Nat.add_comm]

theorem zerosOf_get (zero : List Value) : ∀ (n i : Nat), i < n * zero.length → (zerosOf zero n)[i]? = zero[i % zero.length]?
  | 0, i, h => by simp at h
  | n + 1, i, h => by
    simp only [zerosOf, List.getElem?_append]
    split
    · rename_i hl; rw [Nat.mod_eq_of_lt hl]
    · rename_i hl
      rw [zerosOf_get zero n _ (by rw [Nat.succ_mul] at h; omega)]
      congr 1
      rw [Nat.mod_eq_sub_mod (show zero.length ≤ i by omega)]

theorem zerosOf_eq (zero : Array Value) (n : Nat) : ((Array.range (n * zero.size)).map (fun i => zero[i % zero.size]!)).toList = zerosOf zero.toList n := by
  apply List.ext_getElem?
  intro i
  by_cases h : i < n * zero.size
  · rw [zerosOf_get _ _ _ (by simpa using h)]
    have hz : 0 < zero.size := by
      rcases Nat.eq_zero_or_pos zero.size with h0 | h0
      · rw [h0] at h; simp at h
      · exact h0
    have hm : i % zero.size < zero.size := Nat.mod_lt _ hz
    simp [h, hm]
  · rw [List.getElem?_eq_none (by simp; omega), List.getElem?_eq_none (by rw [zerosOf_length]; simpa using Nat.le_of_not_lt h)]

theorem zeroCells_eq (zero : Array Value) (n : Nat) : (Builtin.zeroCells zero n).toList = zerosOf zero.toList n := zerosOf_eq zero n

theorem zerosOf_plain {zero : List Value} (h : zero.all flatV = true) : ∀ n, (zerosOf zero n).all flatV = true
  | 0 => rfl
  | n + 1 => by simp only [zerosOf, List.all_append, Bool.and_eq_true]; exact ⟨h, zerosOf_plain h n⟩

theorem zeroP_spec {P : Program} {t : TypeId} {zero : List Value} (h : zeroP P t = some zero) :
    ∃ i z, P.info? t = some i ∧ i.zero = some z ∧ z.cells.toList = zero ∧ zero.all flatV = true ∧ z.cells.size = i.size := by
  unfold zeroP at h
  cases hi : P.info? t with
  | none => simp [hi] at h
  | some i =>
    cases hz : i.zero with
    | none => simp [hi, hz] at h
    | some z =>
      simp only [hi, hz, Option.bind_some] at h
      split at h
      · rename_i hc
        simp only [Bool.and_eq_true, beq_iff_eq] at hc
        cases h
        exact ⟨i, z, rfl, hz, rfl, hc.1, hc.2⟩
      · simp at h

theorem sizeP_spec {P : Program} {t : TypeId} {s : Nat} (h : sizeP P t = some s) : ∃ i, P.info? t = some i ∧ i.size = s := by
  unfold sizeP at h
  cases hi : P.info? t with
  | none => simp [hi] at h
  | some i => simp [hi] at h; exact ⟨i, rfl, h⟩
theorem bytesP_spec {P : Program} {t : TypeId} {s : Nat} (h : bytesP P t = some s) : ∃ i, P.info? t = some i ∧ i.bytes = s := by
  unfold bytesP at h
  cases hi : P.info? t with
  | none => simp [hi] at h
  | some i => simp [hi] at h; exact ⟨i, rfl, h⟩
theorem elemP_spec {P : Program} {t e : TypeId} (h : elemP P t = some e) : P.underlying t = some (.slice e) := by
  unfold elemP at h
  split at h
  · rename_i hu; cases h; exact hu
  · simp at h

/-! ## What is appended, or copied -/
theorem xfirst_run {P : Program} {ρ : Rho} {m : Mem} {w : World} {size n k : Nat} {v v' : Value} {new : List Value} (hr : Rel ρ m w) (hv : VRel ρ v v') (hk : xlen v = some k) (hn : n ≤ k)
    (h : xfirst m size n v = some new) :
    ∃ new', CsRel ρ new new' ∧ new'.length = n * size ∧ (Builtin.firstCells size n v').run P w = .ok new'.toArray w ∧ (Builtin.firstCells size n v').run P w.drew = .ok new'.toArray w.drew ∧
      (∀ w', (Builtin.lenOf v').run P w' = .ok k w') := by
  cases hv with
  | agg _ => simp [xlen] at hk
  | tuple _ => simp [xlen] at hk
  | cell hv =>
    cases hv with
    | ptr _ _ => simp [xlen] at hk
    | func _ _ => simp [xlen] at hk
    | nilI => simp [xlen] at hk
    | map _ => simp [xlen] at hk
    | iface _ => simp [xlen] at hk
    | ifaceA _ => simp [xlen] at hk
    | plain hp =>
      cases v <;> simp [xlen] at hk
      · -- string
        rename_i s
        subst hk
        simp only [xfirst] at h
        split at h
        · rename_i h1
          subst h1
          cases h
          refine ⟨_, CsRel.refl ?_, ?_, ?_, ?_, fun w' => by simp [Builtin.lenOf]⟩
          · rw [List.all_eq_true]; intro y hy; obtain ⟨b, _, rfl⟩ := List.mem_map.1 hy; rfl
          · rw [List.length_map, Array.length_toList]
            show (s.extract 0 n).size = _
            rw [ByteArray.size_extract]; omega
          · simp [Builtin.firstCells]; apply Array.ext'; simp
          · simp [Builtin.firstCells]; apply Array.ext'; simp
        · simp at h
      · -- nil slice
        rename_i a len cap
        subst hk
        cases a with
        | some a => simp [plainV] at hp
        | none =>
          simp only [plainV] at hp
          split at hp <;> simp_all
          rename_i e
          obtain ⟨rfl, rfl⟩ := e
          simp [xfirst] at h
          subst h
          have : n = 0 := by omega
          subst this
          exact ⟨[], .nil, by simp, by simp [Builtin.firstCells], by simp [Builtin.firstCells], fun w' => by simp [Builtin.lenOf]⟩
    | slice hs hc hl =>
      rename_i a c len cap
      simp [xlen] at hk
      subst hk
      simp only [xfirst] at h
      split at h
      · rename_i h0; subst h0; cases h
        exact ⟨[], .nil, by simp, by simp [Builtin.firstCells, loadCells, loadCellsFrom], by simp [Builtin.firstCells, loadCells, loadCellsFrom], fun w' => by simp [Builtin.lenOf]⟩
      · obtain ⟨vs', g1, g2⟩ := xload_rel hr h hc
        obtain ⟨g2, g3⟩ := g2
        refine ⟨vs', g2, g1, run_firstCells_some w size n _ _ _ vs' g1 (fun j u hu => by rw [Addr.add_lit]; exact g3 j u hu),
          run_firstCells_some w.drew size n _ _ _ vs' g1 (fun j u hu => by rw [Addr.add_lit]; exact g3 j u hu), fun w' => by simp [Builtin.lenOf]⟩
    | zero hs =>
      rename_i a a'
      simp [xlen] at hk
      subst hk
      have hn0 : n = 0 := by omega
      subst hn0
      simp [xfirst] at h
      subst h
      exact ⟨[], .nil, by simp, by simp [Builtin.firstCells, loadCells, loadCellsFrom], by simp [Builtin.firstCells, loadCells, loadCellsFrom], fun w' => by simp [Builtin.lenOf]⟩
    | slack hs hc hl hcap hmax hx =>
      rename_i a a' c len cap cap'
      simp [xlen] at hk
      subst hk
      simp only [xfirst] at h
      split at h
      · rename_i h0; subst h0; cases h
        exact ⟨[], .nil, by simp, by simp [Builtin.firstCells, loadCells, loadCellsFrom], by simp [Builtin.firstCells, loadCells, loadCellsFrom], fun w' => by simp [Builtin.lenOf]⟩
      · rename_i h0
        obtain ⟨rfl, _⟩ := hx.resolve_left (by omega)
        obtain ⟨vs', g1, g2⟩ := xload_rel hr h hc
        obtain ⟨g2, g3⟩ := g2
        refine ⟨vs', g2, g1, run_firstCells_some w size n _ _ _ vs' g1 (fun j u hu => by rw [Addr.add_lit]; exact g3 j u hu),
          run_firstCells_some w.drew size n _ _ _ vs' g1 (fun j u hu => by rw [Addr.add_lit]; exact g3 j u hu), fun w' => by simp [Builtin.lenOf]⟩

/-! ## append -/
/-- What a slice that grew is. -/
theorem grown_val {ρ : Rho} {w : World} {i need size room : Nat} {e : TypeId} {o : Nat} (hc : ρ i = some ⟨w.heap.size, 0, room, size⟩) (hn : need ≤ 9223372036854775807) (hroom : room = grownCap w need o e * size) :
    CRel ρ (.slice (some ⟨i, 0, some 0⟩) need need) (.slice (some ⟨w.heap.size, 0, none⟩) need (grownCap w need o e)) := by
  refine .slack rfl hc (Nat.le_refl _) (grownCap_ge _ _ _ _) (grownCap_le_maxLen _ _ _ _ (by unfold maxLen; omega)) (.inr ⟨rfl, ?_⟩)
  simp [hroom]

/-- How 'append' of n elements with the cells 'news' runs. -/
structure Apd (P : Program) (t tx ty e : TypeId) (i : TypeInfo) (z : Value) (x : Value) (n : Nat) (news : List Value) (w : World) : Prop where
  newsLen : news.length = n * i.size
  nothing : n = 0 → ∀ base sLen sCap, sLen ≤ sCap → (Builtin.append_ #[t, tx] ty #[.slice base sLen sCap, x]).run P w = .ok (.slice base sLen sCap) w
  room : ∀ b off sLen sCap, sLen + n ≤ sCap → (∀ j, j < news.length → (w.cell? ⟨b, off + sLen * i.size + j, none⟩).isSome = true) → (∀ j, j < news.length → w.frozen? ⟨b, off + sLen * i.size + j, none⟩ = false) →
    (Builtin.append_ #[t, tx] ty #[.slice (some ⟨b, off, none⟩) sLen sCap, x]).run P w = .ok (.slice (some ⟨b, off, none⟩) (sLen + n) sCap) (w.setCells b (off + sLen * i.size) news)
  grow : ∀ base sLen sCap olds, (Builtin.firstCells i.size sLen (.slice base sLen sCap)).run P w.drew = .ok olds.toArray w.drew → sCap < sLen + n → ((sLen + n : Nat) : Int) ≤ 9223372036854775807 →
    Builtin.nextslicecap (sLen + n) sCap * i.bytes ≤ 281474976710656 →
    (Builtin.append_ #[t, tx] ty #[.slice base sLen sCap, x]).run P w =
      .ok (.slice (some ⟨w.heap.size, 0, none⟩) (sLen + n) (grownCap w (sLen + n) sCap e))
        (w.drew.alloc (.cells ((olds ++ news).toArray ++ Builtin.zeroCells z.cells (grownCap w (sLen + n) sCap e - (sLen + n))) e))

theorem Apd.ofSrc {P : Program} {t tx ty e : TypeId} {i : TypeInfo} {z x : Value} {n : Nat} {news : List Value} {w : World} (ht : P.underlying t = some (.slice e)) (hi : P.info? e = some i) (hz : i.zero = some z)
    (hs : Src P i.size tx x n news w) : Apd P t tx ty e i z x n news w where
  newsLen := hs.newsLen
  nothing := by
    intro h0 base sLen sCap hle
    subst h0
    have hn0 : news = [] := List.eq_nil_of_length_eq_zero (by simpa using hs.newsLen)
    subst hn0
    exact run_append_nothing w t tx ty e i ht hi base sLen sCap hle x hs
  room := fun b off sLen sCap hr g1 g2 => run_append_room_src w t tx ty e i ht hi b off sLen sCap x n news hs hr g1 g2
  grow := fun base sLen sCap olds hold hg h63 hfit => run_append_grow_src w t tx ty e i z ht hi hz base sLen sCap olds hold x n news hs hg h63 hfit

/-- Zeros. -/
theorem Apd.ofZeros {P : Program} {t tx ty e : TypeId} {i : TypeInfo} {z : Value} {k kx : IntKind} {n : Nat} {w : World} (ht : P.underlying t = some (.slice e)) (hi : P.info? e = some i) (hz : i.zero = some z)
    (hzs : z.cells.size = i.size) (htx : P.underlying tx = some (.int kx)) (hpz : z.cells.toList.all flatV = true) (hn : n ≤ 9223372036854775807) (hb : n * i.bytes ≤ 281474976710656) (hb0 : i.bytes ≠ 0) :
    Apd P t tx ty e i z (.int k n) n (zerosOf z.cells.toList n) w := by
  have hw : IntKind.i64.wrap (n : Int) = n := IntWalk.i64_in _ (by omega)
  have hnb : ¬ ((n : Int) * (i.bytes : Int) > 2 ^ 48) := by
    have h1 : ((n * i.bytes : Nat) : Int) ≤ ((281474976710656 : Nat) : Int) := Int.ofNat_le.2 hb
    rw [Int.natCast_mul] at h1
    have h48 : (2 : Int) ^ 48 = ((281474976710656 : Nat) : Int) := rfl
    rw [h48]; omega
  have hlen : (zerosOf z.cells.toList n).length = n * i.size := by rw [zerosOf_length, Array.length_toList, hzs]
  have hones : ∀ v ∈ zerosOf z.cells.toList n, v.oneCell' = true := by
    intro v hv
    have := (List.all_eq_true.1 (zerosOf_plain hpz n)) v hv
    cases v <;> first | rfl | (simp [flatV, plainV] at this; done)
  have hzc : (Builtin.zeroCells z.cells n) = (zerosOf z.cells.toList n).toArray := Array.ext' (by rw [zeroCells_eq])
  have hl0 : ¬ ((n : Int) < 0) := by omega
  have hnb' : ¬ (281474976710656 < (n : Int) * (i.bytes : Int)) := by
    have h48 : (2 : Int) ^ 48 = 281474976710656 := rfl
    rw [h48] at hnb; omega
  have hnil : n * i.size = 0 → zerosOf z.cells.toList n = [] := fun h0 => List.eq_nil_of_length_eq_zero (by rw [hlen]; exact h0)
  refine ⟨hlen, ?_, ?_, ?_⟩
  · intro h0 base sLen sCap hle
    subst h0
    cases base <;> simp [Builtin.append_, run_underlying ht, run_underlying htx, sizeOf, typeInfo, hi, asInt, asIntOf, hle, storeCells, IntWalk.i64_in]
  · intro b off sLen sCap hr g1 g2
    have hst := run_storeCells_cells (P := P) b (off + sLen * i.size) (zerosOf z.cells.toList n) 0 w (by simpa using g1) (by simpa using g2) hones
    simp only [Nat.add_zero] at hst
    by_cases h0 : n * i.size = 0
    · rw [hnil h0] at hst ⊢
      simp [Builtin.append_, run_underlying ht, run_underlying htx, sizeOf, typeInfo, hi, asInt, asIntOf, hw, hl0, hnb', hr, h0, storeCells, World.setCells]
    · simp [Builtin.append_, run_underlying ht, run_underlying htx, sizeOf, typeInfo, zeroValue, hi, hz, asInt, asIntOf, hw, hl0, hnb', hr, h0, hzc, Addr.add_lit, hst]
  · intro base sLen sCap olds hold hg h63 hfit
    have hr : ¬ (sLen + n ≤ sCap) := by omega
    have h63' : ¬ (9223372036854775807 < ((sLen : Int) + (n : Int))) := by omega
    have h48' : ¬ (281474976710656 < Builtin.nextslicecap (sLen + n) sCap * i.bytes) := by omega
    by_cases h0 : n * i.size = 0
    · rw [hnil h0]
      simp [Builtin.append_, run_underlying ht, run_underlying htx, sizeOf, typeInfo, zeroValue, hi, hz, asInt, asIntOf, hw, hl0, hnb', hr, h63', h48', h0, Question.forced, hold, newRow, grownCap]
    · simp [Builtin.append_, run_underlying ht, run_underlying htx, sizeOf, typeInfo, zeroValue, hi, hz, asInt, asIntOf, hw, hl0, hnb', hr, h63', h48', h0, Question.forced, hold, hzc, newRow, grownCap]
      congr 2
      apply Array.ext'
      simp [List.append_assoc]

/-- What is behind a slice's end is known no more. -/
theorem trunc_step {ρ : Rho} {m : Mem} {w : World} {i k s : Nat} {o : XObj} {c : Co} (hr : Rel ρ m w) (ho : m.get i = some o) (hc : ρ i = some c) (hrw : o.rw = true) (hsp : o.spare = some s) :
    Step ρ m w ρ ((m.eraseAll o.kin).set i { cells := o.cells.take k, rw := true, spare := some s, kin := [] }) w := by
  have hO0 := hr.obj _ _ _ ho hc
  have hget : ∀ j oj, ((m.eraseAll o.kin).set i { cells := o.cells.take k, rw := true, spare := some s, kin := [] }).get j = some oj → (j = i ∧ oj = { cells := o.cells.take k, rw := true, spare := some s, kin := [] }) ∨ (j ≠ i ∧ j ∉ o.kin ∧ m.get j = some oj) := by
    intro j oj hj
    rw [Mem.get_set] at hj
    by_cases h : i = j
    · rw [if_pos h] at hj; cases hj; exact .inl ⟨h.symm, rfl⟩
    · rw [if_neg h, Mem.get_eraseAll] at hj
      split at hj
      · cases hj
      · rename_i hn; exact .inr ⟨fun e => h e.symm, hn, hj⟩
  refine ⟨.refl _, ⟨?_, ?_, ?_, ?_⟩, .refl _ _ _, ⟨?_⟩, by simp, ?_, fun _ _ h => h⟩
  · intro j oj cj hj hcj
    rcases hget j oj hj with ⟨rfl, rfl⟩ | ⟨_, _, hj'⟩
    · have hO := hr.obj _ _ _ ho hcj
      refine ⟨hO.lt, fun q v hq => hO.cell q v ?_, fun _ => hO.free hrw, fun s' hs' => (by cases hs'; exact hO.esz _ hsp), (fun k hk => by simp at hk), fun _ s' hs' => ?_, trivial⟩
      · simp only [List.getElem?_take] at hq
        split at hq
        · exact hq
        · cases hq
      · obtain ⟨q1, q2⟩ := hO.spare hrw _ hsp
        exact ⟨by simp only [List.length_take]; omega, q2⟩
    · exact hr.obj j oj cj hj' hcj
  · intro j q oj oq cj cq hjk hj hk hcj hcq hjrw hb
    rcases hget j oj hj with ⟨rfl, rfl⟩ | ⟨hne, hn, hj'⟩
    · rcases hget q oq hk with ⟨rfl, rfl⟩ | ⟨_, hn', hk'⟩
      · exact absurd rfl hjk
      · exact absurd (hr.excl j q o oq cj cq hjk ho hk' hcj hcq hrw hb).1 hn'
    · rcases hget q oq hk with ⟨rfl, rfl⟩ | ⟨_, _, hk'⟩
      · have h := hr.excl j q oj o cj cq hjk hj' ho hcj hcq hjrw hb
        rw [h.2.1] at hrw; cases hrw
      · exact hr.excl j q oj oq cj cq hjk hj' hk' hcj hcq hjrw hb
  · intro j hj; simp at hj; exact hr.fresh j hj
  · intro j oj hj
    simp only [Mem.next_set, Mem.next_eraseAll]
    rcases hget j oj hj with ⟨rfl, _⟩ | ⟨_, _, hj'⟩
    · exact hr.alive _ _ ho
    · exact hr.alive _ _ hj'
  · intro j oj cj hj hjrw hcj
    rcases hget j oj hj with ⟨rfl, rfl⟩ | ⟨_, _, hj'⟩
    · exact .inr ⟨j, o, cj, ho, hrw, hcj, rfl⟩
    · exact .inr ⟨j, oj, cj, hj', hjrw, hcj, rfl⟩
  · intro j _ hn
    rw [Mem.get_set, if_neg (fun h => by rw [h] at hc; rw [hc] at hn; cases hn), Mem.get_eraseAll, if_neg (fun hk => by obtain ⟨c', hc'⟩ := hO0.kin j hk; rw [hn] at hc'; cases hc')]

/-- A slice of unknown capacity grows. -/
theorem slack_grow {P : Program} {ρ : Rho} {m : Mem} {w : World} {t tx ty e : TypeId} {i : TypeInfo} {z : Value} {n : Nat} {x : Value} {new new' : List Value} {a a' : Addr} {c : Co} {len cap cap' : Nat} {o : XObj}
    (hzs : z.cells.size = i.size) (hs : Apd P t tx ty e i z x n new' w) (hnew : CsRel ρ new new') (hnl : new'.length = n * i.size) (hnl' : new'.length = new.length) (hr : Rel ρ m w) (hsp : a.spot = some 0) (hc : ρ a.block = some c) (hl : len ≤ cap) (hcap : cap ≤ cap') (hmax : cap' ≤ 9223372036854775807)
    (hx : cap' = 0 ∨ a' = ⟨c.blk, c.off + a.off, none⟩ ∧ a.off + cap' * c.esz = c.room) (h0 : ¬ n = 0) (hb : (len + n) * i.bytes ≤ 140737488355328 ∧ len + n ≤ 9223372036854775807) (ho : m.get a.block = some o) (hrw : o.rw = true) (hspare : o.spare = some i.size) (hs0 : i.size ≠ 0) (hend : a.off + len * i.size = o.cells.length) :
    ∃ ρ' r' w', (Builtin.append_ #[t, tx] ty #[.slice (some a') len cap', x]).run P w = .ok r' w' ∧ VRel ρ' (.slice (some ⟨m.next, 0, some 0⟩) (len + n) (len + n)) r' ∧
      Step ρ m w ρ' ((m.set a.block { o with rw := false, kin := [] }).push { cells := o.cells.drop a.off ++ new, rw := true, spare := some i.size, kin := a.block :: o.kin }) w' := by
  have hO := hr.obj _ _ _ ho hc
  have q1 := hO.esz _ hspare
  obtain ⟨q2, q3⟩ := hO.spare hrw _ hspare
  by_cases hin : len + n ≤ cap'
  · -- into the spare places
    obtain ⟨rfl, hxr⟩ := hx.resolve_left (by omega)
    have hroomc : o.cells.length + new.length ≤ c.room := by
      rw [← hend, ← hxr, q1, ← hnl', hnl]
      have : (len + n) * i.size ≤ cap' * i.size := Nat.mul_le_mul_right _ hin
      rw [Nat.add_mul] at this; omega
    obtain ⟨g1, g2, g3⟩ := inplace_step (s := i.size) (off := a.off) hr ho hc hrw hspare (by omega) hnew hroomc
    rw [← hend] at g1 g2
    have hrun := hs.room c.blk (c.off + a.off) len cap' hin (by simpa [Nat.add_assoc] using g1) (by simpa [Nat.add_assoc] using g2)
    refine ⟨ρ.with m.next ⟨c.blk, c.off + a.off, c.room - a.off, i.size⟩, _, _, hrun, ?_, ?_⟩
    · refine .cell (.slack (c := ⟨c.blk, c.off + a.off, c.room - a.off, i.size⟩) rfl (by simp [Rho.with]) (Nat.le_refl _) hin hmax (.inr ⟨by simp, ?_⟩))
      simp only [Nat.zero_add]; rw [q1] at hxr; omega
    · have e1 : c.off + a.off + len * i.size = c.off + o.cells.length := by omega
      rw [e1]; exact g3
  · -- a new row
    have hold : ∃ old', CsRel ρ (o.cells.drop a.off) old' ∧ old'.length = len * i.size ∧ (Builtin.firstCells i.size len (.slice (some a') len cap')).run P w.drew = .ok old'.toArray w.drew := by
      by_cases hl0 : len = 0
      · subst hl0
        have : o.cells.drop a.off = [] := by apply List.eq_nil_of_length_eq_zero; simp; omega
        rw [this]
        exact ⟨[], .nil, by simp, by simp [Builtin.firstCells, loadCells, loadCellsFrom]⟩
      · obtain ⟨rfl, hxr⟩ := hx.resolve_left (by omega)
        have hld : xload m { a with spot := none } (len * i.size) = some (o.cells.drop a.off) := by
          unfold xload
          simp only [ho]
          rw [if_pos (by omega)]
          rw [List.take_of_length_le (by simp; omega)]
        obtain ⟨vs', k1, k2, k3⟩ := xload_rel hr hld (c := c) hc
        exact ⟨vs', k2, k1, run_firstCells_some w.drew i.size len _ _ _ vs' k1 (fun j u hu => by rw [Addr.add_lit]; exact k3 j u hu)⟩
    obtain ⟨old', h2, h3, h4⟩ := hold
    have hg := hs.grow _ len cap' old' h4 (by omega) (by omega) (growslice_fits (by omega) hb.1)
    have hsz : ((old' ++ new').toArray ++ Builtin.zeroCells z.cells (grownCap w (len + n) cap' e - (len + n))).size = grownCap w (len + n) cap' e * i.size := by
      have := grownCap_ge w (len + n) cap' e
      simp only [Array.size_append, List.size_toArray, List.length_append, size_zeroCells, hzs, hnl, h3, ← Nat.add_mul]
      congr 1; omega
    have hfz := freeze_step hr.drew ho hc
    have hp := push_step (e := e) (sp := some i.size) (kin := a.block :: o.kin) (cells := o.cells.drop a.off ++ new) (row := (old' ++ new').toArray ++ Builtin.zeroCells z.cells (grownCap w (len + n) cap' e - (len + n))) i.size hfz.rel
      (by simp only [Array.toList_append]; rw [show (o.cells.drop a.off ++ new).length = (old' ++ new').length by simp only [List.length_append]; rw [h2.length, hnl'], List.take_left]; exact h2.append hnew) (by simp) (by
      intro k hk
      simp only [List.mem_cons] at hk
      rcases hk with rfl | hk
      · exact ⟨c, hc⟩
      · exact hO.kin k hk)
    refine ⟨_, _, _, hg, ?_, (Step.drew hr).trans (hfz.trans hp)⟩
    exact .cell (grown_val (w := w) (size := i.size) (i := m.next) (by simp only [Mem.next_set]; rw [World.size_drew, hsz]; simp [Rho.with]) hb.2 rfl)

theorem xappend_run {P : Program} {ρ : Rho} {m m' : Mem} {w : World} {t tx ty e : TypeId} {i : TypeInfo} {z : Value} {size bytes n : Nat} {v v' x r : Value} {new new' : List Value}
    (hsize : i.size = size) (hbytes : i.bytes = bytes) (hzs : z.cells.size = i.size)
    (hs : Apd P t tx ty e i z x n new' w) (hnew : CsRel ρ new new') (hr : Rel ρ m w) (hv : VRel ρ v v') (h : xappend m size bytes v n new = some (r, m')) :
    ∃ ρ' r' w', (Builtin.append_ #[t, tx] ty #[v', x]).run P w = .ok r' w' ∧ VRel ρ' r r' ∧ Step ρ m w ρ' m' w' := by
  subst hsize
  subst hbytes
  have hnl := hs.newsLen
  have hnl' := hnew.length
  cases hv with
  | agg _ => simp [xappend] at h
  | tuple _ => simp [xappend] at h
  | cell hv =>
    cases hv with
    | ptr _ _ => simp [xappend] at h
    | func _ _ => simp [xappend] at h
    | nilI => simp [xappend] at h
    | map _ => simp [xappend] at h
    | iface _ => simp [xappend] at h
    | ifaceA _ => simp [xappend] at h
    | plain hp =>
      cases v <;> simp only [xappend, reduceCtorEq] at h
      rename_i a len cap
      cases a with
      | some a => simp [plainV] at hp
      | none =>
        obtain ⟨rfl, rfl⟩ : len = 0 ∧ cap = 0 := by
          simp only [plainV] at hp
          split at hp <;> simp_all
        simp only [xappend] at h
        split at h
        · rename_i h0
          subst h0
          obtain ⟨rfl, rfl⟩ : r = .slice none 0 0 ∧ m' = m := by simpa [eq_comm] using h
          have hn0 : new' = [] := List.eq_nil_of_length_eq_zero (by simpa using hnl)
          subst hn0
          exact ⟨ρ, _, _, hs.nothing rfl none 0 0 (Nat.le_refl _), .cell (.plain hp), .refl hr⟩
        · rename_i h0
          split at h
          · rename_i hb
            obtain ⟨rfl, rfl⟩ : r = .slice (some ⟨m.next, 0, some 0⟩) n n ∧ m' = m.push { cells := new, rw := true, spare := some i.size, kin := [] } := by simpa [eq_comm] using h
            have hg := hs.grow none 0 0 [] (by simp [Builtin.firstCells]) (by omega) (by omega) (growslice_fits (by omega) (by simpa using hb.1))
            simp only [Nat.zero_add, List.nil_append] at hg
            have hsz : (new'.toArray ++ Builtin.zeroCells z.cells (grownCap w n 0 e - n)).size = grownCap w n 0 e * i.size := by
              have := grownCap_ge w n 0 e
              simp only [Array.size_append, List.size_toArray, size_zeroCells, hzs, hnl, ← Nat.add_mul]
              congr 1; omega
            have hp := push_step (e := e) (sp := some i.size) (kin := []) (cells := new) (row := new'.toArray ++ Builtin.zeroCells z.cells (grownCap w n 0 e - n)) i.size hr.drew
              (by simp only [Array.toList_append]; rw [← hnl', List.take_left]; exact hnew) (by simp) (by simp)
            refine ⟨_, _, _, hg, ?_, (Step.drew hr).trans hp⟩
            exact .cell (grown_val (w := w) (size := i.size) (by rw [World.size_drew, hsz]; simp [Rho.with]) hb.2 rfl)
          · simp at h
    | slice hsp hc hl =>
      rename_i a c len cap
      simp only [xappend] at h
      split at h
      · rename_i h0
        subst h0
        obtain ⟨rfl, rfl⟩ : r = .slice (some a) len cap ∧ m' = m := by simpa [eq_comm] using h
        have hn0 : new' = [] := List.eq_nil_of_length_eq_zero (by simpa using hnl)
        subst hn0
        exact ⟨ρ, _, _, hs.nothing rfl _ len cap hl, .cell (.slice hsp hc hl), .refl hr⟩
      · rename_i h0
        split at h
        · rename_i hroom
          split at h
          · simp at h
          rename_i hs0
          cases hst : xstore m ⟨a.block, a.off + len * i.size, none⟩ new with
          | none => simp [hst] at h
          | some m1 =>
            simp only [hst, Option.bind_some, Option.some.injEq, Prod.mk.injEq] at h
            obtain ⟨rfl, rfl⟩ := h
            obtain ⟨g1, g2, g3⟩ := xstore_rel hr hst (c := c) (by simpa using hc) hnew
            have hrun := hs.room c.blk (c.off + a.off) len cap hroom (by simpa [Nat.add_assoc] using g1) (by simpa [Nat.add_assoc] using g2)
            refine ⟨ρ, _, _, hrun, .cell (.slice hsp hc (by omega)), ?_⟩
            simpa [Nat.add_assoc] using g3
        · rename_i hroom
          split at h
          · rename_i hb
            simp only [hsp] at h
            have hold : ∃ old old', (if len = 0 then some [] else xload m a (len * i.size)) = some old ∧ CsRel ρ old old' ∧ old'.length = len * i.size ∧ (Builtin.firstCells i.size len (.slice (some ⟨c.blk, c.off + a.off, none⟩) len cap)).run P w.drew = .ok old'.toArray w.drew := by
              cases ho : (if len = 0 then some [] else xload m a (len * i.size)) with
              | none => simp [ho] at h
              | some old =>
                split at ho
                · rename_i hl0; subst hl0; cases ho
                  exact ⟨[], [], rfl, .nil, by simp, by simp [Builtin.firstCells, loadCells, loadCellsFrom]⟩
                · obtain ⟨vs', k1, k2, k3⟩ := xload_rel hr ho hc
                  exact ⟨old, vs', rfl, k2, k1, run_firstCells_some w.drew i.size len _ _ _ vs' k1 (fun j u hu => by rw [Addr.add_lit]; exact k3 j u hu)⟩
            obtain ⟨old, old', h1, h2, h3, h4⟩ := hold
            simp only [h1, Option.bind_some, Option.some.injEq, Prod.mk.injEq] at h
            obtain ⟨rfl, rfl⟩ := h
            have hg := hs.grow _ len cap old' h4 (by omega) (by omega) (growslice_fits (by omega) hb.1)
            have hsz : ((old' ++ new').toArray ++ Builtin.zeroCells z.cells (grownCap w (len + n) cap e - (len + n))).size = grownCap w (len + n) cap e * i.size := by
              have := grownCap_ge w (len + n) cap e
              simp only [Array.size_append, List.size_toArray, List.length_append, size_zeroCells, hzs, hnl, h3, ← Nat.add_mul]
              congr 1; omega
            have hp := push_step (e := e) (sp := some i.size) (kin := []) (cells := old ++ new) (row := (old' ++ new').toArray ++ Builtin.zeroCells z.cells (grownCap w (len + n) cap e - (len + n))) i.size hr.drew
              (by simp only [Array.toList_append]; rw [show (old ++ new).length = (old' ++ new').length by simp [h2.length, hnl'], List.take_left]; exact h2.append hnew) (by simp) (by simp)
            refine ⟨_, _, _, hg, ?_, (Step.drew hr).trans hp⟩
            exact .cell (grown_val (w := w) (size := i.size) (by rw [World.size_drew, hsz]; simp [Rho.with]) hb.2 rfl)
          · simp at h
    | zero hsp =>
      rename_i a a'
      simp only [xappend] at h
      split at h
      · rename_i h0
        subst h0
        obtain ⟨rfl, rfl⟩ : r = .slice (some a) 0 0 ∧ m' = m := by simpa [eq_comm] using h
        have hn0 : new' = [] := List.eq_nil_of_length_eq_zero (by simpa using hnl)
        subst hn0
        exact ⟨ρ, _, _, hs.nothing rfl _ 0 0 (Nat.le_refl _), .cell (.zero hsp), .refl hr⟩
      · rename_i h0
        rw [if_neg (by omega)] at h
        split at h
        case isFalse => simp at h
        rename_i hb
        simp only [Nat.zero_add] at hb
        simp only [hsp, if_true] at h
        obtain ⟨rfl, rfl⟩ : r = .slice (some ⟨m.next, 0, some 0⟩) n n ∧ m' = m.push { cells := new, rw := true, spare := some i.size, kin := [] } := by simpa [eq_comm] using h
        have hg := hs.grow (some a') 0 0 [] (by simp [Builtin.firstCells, loadCells, loadCellsFrom]) (by omega) (by omega) (growslice_fits (by omega) (by simpa using hb.1))
        simp only [Nat.zero_add, List.nil_append] at hg
        have hsz : (new'.toArray ++ Builtin.zeroCells z.cells (grownCap w n 0 e - n)).size = grownCap w n 0 e * i.size := by
          have := grownCap_ge w n 0 e
          simp only [Array.size_append, List.size_toArray, size_zeroCells, hzs, hnl, ← Nat.add_mul]
          congr 1; omega
        have hp := push_step (e := e) (sp := some i.size) (kin := []) (cells := new) (row := new'.toArray ++ Builtin.zeroCells z.cells (grownCap w n 0 e - n)) i.size hr.drew
          (by simp only [Array.toList_append]; rw [← hnl', List.take_left]; exact hnew) (by simp) (by simp)
        refine ⟨_, _, _, hg, ?_, (Step.drew hr).trans hp⟩
        exact .cell (grown_val (w := w) (size := i.size) (by rw [World.size_drew, hsz]; simp [Rho.with]) hb.2 rfl)
    | slack hsp hc hl hcap hmax hx =>
      rename_i a a' c len cap cap'
      simp only [xappend] at h
      split at h
      · rename_i h0
        subst h0
        obtain ⟨rfl, rfl⟩ : r = .slice (some a) len cap ∧ m' = m := by simpa [eq_comm] using h
        have hn0 : new' = [] := List.eq_nil_of_length_eq_zero (by simpa using hnl)
        subst hn0
        exact ⟨ρ, _, _, hs.nothing rfl _ len cap' (by omega), .cell (.slack hsp hc hl hcap hmax hx), .refl hr⟩
      · rename_i h0
        split at h
        · rename_i hroom
          split at h
          · simp at h
          rename_i hs0
          cases hst : xstore m ⟨a.block, a.off + len * i.size, none⟩ new with
          | none => simp [hst] at h
          | some m1 =>
            simp only [hst, Option.bind_some, Option.some.injEq, Prod.mk.injEq] at h
            obtain ⟨rfl, rfl⟩ := h
            obtain ⟨rfl, hxr⟩ := hx.resolve_left (by omega)
            obtain ⟨g1, g2, g3⟩ := xstore_rel hr hst (c := c) (by simpa using hc) hnew
            have hrun := hs.room c.blk (c.off + a.off) len cap' (by omega) (by simpa [Nat.add_assoc] using g1) (by simpa [Nat.add_assoc] using g2)
            refine ⟨ρ, _, _, hrun, .cell (.slack hsp hc (by omega) hcap hmax (.inr ⟨rfl, hxr⟩)), ?_⟩
            simpa [Nat.add_assoc] using g3
        · rename_i hroom
          split at h
          · rename_i hb
            simp only [hsp] at h
            split at h
            · simp at h
            rename_i o ho
            split at h
            case isFalse =>
              split at h
              case isFalse => simp at h
              rename_i hcond
              obtain ⟨hrw, hspare, hs0, hend⟩ := hcond
              simp only [Option.some.injEq, Prod.mk.injEq] at h
              obtain ⟨rfl, rfl⟩ := h
              have hT := trunc_step (k := a.off + len * i.size) hr ho hc hrw hspare
              obtain ⟨ρ', r', w', u1, u2, u3⟩ := slack_grow (len := len) (cap := cap) hzs hs hnew hnl hnl' hT.rel hsp hc hl hcap hmax hx h0 hb (by rw [Mem.get_set, if_pos rfl]) rfl rfl hs0 (by simp only [List.length_take]; omega)
              simp only [Mem.next_set, Mem.next_eraseAll] at u2
              exact ⟨ρ', r', w', u1, u2, hT.trans u3⟩
            rename_i hcond
            obtain ⟨hrw, hspare, hs0, hend⟩ := hcond
            simp only [Option.some.injEq, Prod.mk.injEq] at h
            obtain ⟨rfl, rfl⟩ := h
            exact slack_grow hzs hs hnew hnl hnl' hr hsp hc hl hcap hmax hx h0 hb ho hrw hspare hs0 hend
          · simp at h

end Go.Proofs.YtnlmnejellipdaaGreat.X
