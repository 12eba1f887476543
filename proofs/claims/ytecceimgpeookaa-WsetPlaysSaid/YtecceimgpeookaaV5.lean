/-
  Own work. The set of writes: what its functions that turn it come to. A write laid, a write, a mark.
-/
import Derived.Test.YtecceimgpeookaaV4
import Derived.Test.YtecceimgpeookaaXOwn3
namespace Go.Proofs.Ytecceimgpeookaa
open Go X
set_option maxRecDepth 100000
attribute [local irreducible] X.Go' X.GoO X.GoR X.GoG X.GoC X.GoF X.GoFV X.GoFG X.Ex X.GoD X.GoDV X.GoDG
set_option linter.unusedVariables false
set_option linter.unusedSimpArgs false

/-! ## Plain -/
def layW (w : Wr) (has : Bool) (W : List Wr) : List Wr := W.filter (fun x => decide (ltT x.key w.key)) ++ ((if has = true then [w] else []) ++ W.filter (fun x => decide (ltT w.key x.key)))
section
variable {k : ByteArray} {W A B : List Wr} {o : Option Wr} {w : Wr} {has : Bool}
theorem CutW.lay (h : CutW w.key W A o B) : layW w has W = A ++ ((if has = true then [w] else []) ++ B) := by
  have e1 : A.filter (fun x => decide (ltT x.key w.key)) = A := List.filter_eq_self.2 fun x hx => by simpa using h.lo x hx
  have e2 : B.filter (fun x => decide (ltT w.key x.key)) = B := List.filter_eq_self.2 fun x hx => by simpa using h.hi x hx
  have e3 : A.filter (fun x => decide (ltT w.key x.key)) = [] := List.filter_eq_nil_iff.2 fun x hx => by simpa using ltT_asymm (h.lo x hx)
  have e4 : B.filter (fun x => decide (ltT x.key w.key)) = [] := List.filter_eq_nil_iff.2 fun x hx => by simpa using ltT_asymm (h.hi x hx)
  have e5 : o.toList.filter (fun x => decide (ltT x.key w.key)) = [] := List.filter_eq_nil_iff.2 fun x hx => by
    have := h.mid x (by simpa using hx)
    simpa [this] using ltT_irrefl _
  have e6 : o.toList.filter (fun x => decide (ltT w.key x.key)) = [] := List.filter_eq_nil_iff.2 fun x hx => by
    have := h.mid x (by simpa using hx)
    simpa [this] using ltT_irrefl _
  rw [layW, h.eq]
  simp only [List.filter_append, e1, e2, e3, e4, e5, e6, List.nil_append, List.append_nil]
/-- What is laid is cut where it was. -/
theorem CutW.cut (h : CutW w.key W A o B) : CutW w.key (layW w has W) A (if has = true then some w else none) B := by
  refine ⟨?_, h.lo, fun x hx => ?_, h.hi⟩
  · rw [h.lay]; cases has <;> rfl
  · cases has with
    | true => cases hx; rfl
    | false => cases hx
theorem CutW.sort (h : CutW w.key W A o B) (hs : SortW W) : SortW (layW w has W) := by
  rw [h.lay]
  rw [h.eq] at hs
  unfold SortW at hs ⊢
  rw [List.pairwise_append, List.pairwise_append] at hs ⊢
  obtain ⟨s1, ⟨s2, s3, s4⟩, s5⟩ := hs
  have hm : ∀ x ∈ (if has = true then [w] else []), x = w := fun x hx => by
    cases has with
    | true => simpa using hx
    | false => simp at hx
  refine ⟨s1, ⟨?_, s3, fun a ha b hb => ?_⟩, fun a ha b hb => ?_⟩
  · cases has <;> simp
  · rw [hm a ha]; exact h.hi b hb
  · rcases List.mem_append.1 hb with hb | hb
    · rw [hm b hb]; exact h.lo a ha
    · exact s5 a ha b (List.mem_append.2 (.inr hb))
theorem CutW.lay_len (h : CutW w.key W A o B) : (layW w has W).length = A.length + ((if has = true then 1 else 0) + B.length) := by
  rw [h.lay]; cases has <;> simp; omega
/-- Every list that rises is cut by a key. -/
theorem cut_ex (hs : SortW W) : ∃ A o B, CutW k W A o B := by
  have key : ∃ i, i ≤ W.length ∧ (∀ (d : Nat) (x : Wr), d < i → W[d]? = some x → ltT x.key k) ∧ (∀ (d : Nat) (x : Wr), i ≤ d → W[d]? = some x → ¬ ltT x.key k) := by
    induction W with
    | nil => exact ⟨0, by simp, by intros; omega, fun d x _ hx => by simp at hx⟩
    | cons y W ih =>
      obtain ⟨h1, h2⟩ := List.pairwise_cons.1 hs
      obtain ⟨i, k1, k2, k3⟩ := ih h2
      by_cases hy : ltT y.key k
      · refine ⟨i + 1, by simpa using k1, fun d x hd hx => ?_, fun d x hd hx => ?_⟩
        · cases d with
          | zero => simp at hx; subst hx; exact hy
          | succ d => exact k2 d x (by omega) (by simpa using hx)
        · cases d with
          | zero => omega
          | succ d => exact k3 d x (by omega) (by simpa using hx)
      · refine ⟨0, by omega, by intros; omega, fun d x hd hx => ?_⟩
        cases d with
        | zero => simp at hx; subst hx; exact hy
        | succ d => exact fun hq => hy (ltT_trans (h1 x (List.mem_of_getElem? (by simpa using hx))) hq)
  obtain ⟨i, k1, k2, k3⟩ := key
  obtain ⟨A, o, B, h, _⟩ := cut_of hs k1 k2 k3
  exact ⟨A, o, B, h⟩
end
def Un.w (u : Un) : Wr := ⟨u.key, u.was.gone, u.was.num, u.was.text, u.was.bits⟩
def undo (us : List Un) (W : List Wr) : List Wr := us.foldr (fun u W => layW u.w u.had W) W

/-! ## Rows -/
section
variable {G FL FU FM Mk : List Nat} {m m' : Mem} {p : Nat} {vl vu vm : Value} {W : List Wr} {us : List Un} {k : ByteArray} {w : Wr} {has : Bool}
theorem fld_store {cs : List Value} {i : Nat} {x : Value} (hg : m.get p = some { cells := cs, rw := true, spare := none, kin := [] }) (hi : i < cs.length) (h1 : x.cells = #[x]) (h2 : noTup x = true) :
    ∃ m', storeE m 1 (.pointer (some ⟨p, i, none⟩)) x = some (.skip m') ∧ m'.get p = some { cells := cs.set i x, rw := true, spare := none, kin := [] } ∧ Fm (· = p) m m' ∧ m'.next = m.next := by
  have hst := xstore_own (off := i) (vs := [x]) hg rfl (by show i + 1 ≤ cs.length; omega)
  refine ⟨m.set p { cells := cs.set i x, rw := true, spare := none, kin := [] }, ?_, by rw [Mem.get_set, if_pos rfl], Fm.set rfl, by simp⟩
  · have e1 : x.cells.size = 1 := by rw [h1]; rfl
    have e2 : x.cells.toList = [x] := by rw [h1]
    simp only [storeE]
    rw [if_pos ⟨e1, h2⟩, if_neg (by decide), e2, hst]
    rfl
/-- The writes' slice is another one. -/
theorem SetM.setL {F' : List Nat} {vl' : Value} {W' : List Wr} (h : SetM G m p vl vu vm FL FU FM W us Mk) (hf : Fm (· ∈ FL) m m') (ho : Own2 5 F' m' vl' (rowsW W')) (hF : ∀ i ∈ F', i ∈ FL ∨ m.next ≤ i) :
    ∃ m2 G', storeE m' 1 (.pointer (some ⟨p, 0, none⟩)) vl' = some (.skip m2) ∧ SetM G' m2 p vl' vu vm F' FU FM W' us Mk ∧ Fm (· ∈ G) m m2 ∧ ∀ i ∈ G', i ∈ G ∨ m.next ≤ i := by
  have hg := hf.get (h.lt p h.pG) h.pL h.get
  obtain ⟨q, c, hv⟩ := own_slice ho (by omega)
  obtain ⟨m2, s1, s2, s3, s4⟩ := fld_store (i := 0) (x := vl') hg (by simp) (by rw [hv]; rfl) (by rw [hv]; rfl)
  have hp' : p ∉ F' := fun e => (hF p e).elim h.pL fun q => by have := h.lt p h.pG; omega
  have hn := hf.next
  have nin : ∀ {FX : List Nat}, (∀ i ∈ FX, i ∈ G) → (∀ i ∈ FL, i ∉ FX) → ∀ i ∈ F', i ∉ FX := fun {FX} hx h1 i hi hi' => (hF i hi).elim (fun q => h1 i q hi') fun q => by have := h.lt i (hx i hi'); omega
  have keep : ∀ {FX : List Nat} {size : Nat} {v : Value} {rows : List (List Value)}, Own2 size FX m v rows → (∀ i ∈ FL, i ∉ FX) → p ∉ FX → Own2 size FX m2 v rows := fun {FX size v rows} h1 h2 h3 =>
    (h1.fr hf fun i hi q => h2 i q hi).fr s3 fun i hi (e : i = p) => h3 (e ▸ hi)
  refine ⟨m2, G ++ F', s1, ⟨s2, ho.fr s3 fun i hi (e : i = p) => hp' (e ▸ hi), keep h.ou h.lu h.pU, keep h.om h.lm h.pM, hp', h.pU, h.pM, nin h.uG h.lu, nin h.mG h.lm, h.um, by simp [h.pG], fun i hi => by simp [hi], fun i hi => by simp [h.uG i hi], fun i hi => by simp [h.mG i hi], fun i hi => ?_⟩, (hf.mono fun i _ hi => h.lG i hi).comp s3 fun i _ (e : i = p) => e ▸ h.pG, fun i hi => ?_⟩
  · rcases List.mem_append.1 hi with hi | hi
    · have := h.lt i hi; omega
    · have := ho.lt i hi; omega
  · rcases List.mem_append.1 hi with hi | hi
    · exact .inl hi
    · exact (hF i hi).imp (h.lG i) id
theorem SetM.setU {F' : List Nat} {vu' : Value} {us' : List Un} (h : SetM G m p vl vu vm FL FU FM W us Mk) (hf : Fm (· ∈ FU) m m') (ho : Own2 7 F' m' vu' (rowsN us')) (hF : ∀ i ∈ F', i ∈ FU ∨ m.next ≤ i) :
    ∃ m2 G', storeE m' 1 (.pointer (some ⟨p, 1, none⟩)) vu' = some (.skip m2) ∧ SetM G' m2 p vl vu' vm FL F' FM W us' Mk ∧ Fm (· ∈ G) m m2 ∧ ∀ i ∈ G', i ∈ G ∨ m.next ≤ i := by
  have hg := hf.get (h.lt p h.pG) h.pU h.get
  obtain ⟨q, c, hv⟩ := own_slice ho (by omega)
  obtain ⟨m2, s1, s2, s3, s4⟩ := fld_store (i := 1) (x := vu') hg (by simp) (by rw [hv]; rfl) (by rw [hv]; rfl)
  have hp' : p ∉ F' := fun e => (hF p e).elim h.pU fun q => by have := h.lt p h.pG; omega
  have hn := hf.next
  have lu' : ∀ i ∈ FU, i ∉ FL := fun i hi hi' => h.lu i hi' hi
  have nin : ∀ {FX : List Nat}, (∀ i ∈ FX, i ∈ G) → (∀ i ∈ FU, i ∉ FX) → ∀ i ∈ F', i ∉ FX := fun {FX} hx h1 i hi hi' => (hF i hi).elim (fun q => h1 i q hi') fun q => by have := h.lt i (hx i hi'); omega
  have keep : ∀ {FX : List Nat} {size : Nat} {v : Value} {rows : List (List Value)}, Own2 size FX m v rows → (∀ i ∈ FU, i ∉ FX) → p ∉ FX → Own2 size FX m2 v rows := fun {FX size v rows} h1 h2 h3 =>
    (h1.fr hf fun i hi q => h2 i q hi).fr s3 fun i hi (e : i = p) => h3 (e ▸ hi)
  refine ⟨m2, G ++ F', s1, ⟨s2, keep h.ol lu' h.pL, ho.fr s3 fun i hi (e : i = p) => hp' (e ▸ hi), keep h.om h.um h.pM, h.pL, hp', h.pM, fun i hi hi' => nin h.lG lu' i hi' hi, h.lm, nin h.mG h.um, by simp [h.pG], fun i hi => by simp [h.lG i hi], fun i hi => by simp [hi], fun i hi => by simp [h.mG i hi], fun i hi => ?_⟩, (hf.mono fun i _ hi => h.uG i hi).comp s3 fun i _ (e : i = p) => e ▸ h.pG, fun i hi => ?_⟩
  · rcases List.mem_append.1 hi with hi | hi
    · have := h.lt i hi; omega
    · have := ho.lt i hi; omega
  · rcases List.mem_append.1 hi with hi | hi
    · exact .inl hi
    · exact (hF i hi).imp (h.uG i) id
theorem SetM.setM {F' Mk' : List Nat} {vm' : Value} (h : SetM G m p vl vu vm FL FU FM W us Mk) (hf : Fm (· ∈ FM) m m') (ho : Own2 1 F' m' vm' (rowsI Mk')) (hF : ∀ i ∈ F', i ∈ FM ∨ m.next ≤ i) :
    ∃ m2 G', storeE m' 1 (.pointer (some ⟨p, 2, none⟩)) vm' = some (.skip m2) ∧ SetM G' m2 p vl vu vm' FL FU F' W us Mk' ∧ Fm (· ∈ G) m m2 ∧ ∀ i ∈ G', i ∈ G ∨ m.next ≤ i := by
  have hg := hf.get (h.lt p h.pG) h.pM h.get
  obtain ⟨q, c, hv⟩ := own_slice ho (by omega)
  obtain ⟨m2, s1, s2, s3, s4⟩ := fld_store (i := 2) (x := vm') hg (by simp) (by rw [hv]; rfl) (by rw [hv]; rfl)
  have hp' : p ∉ F' := fun e => (hF p e).elim h.pM fun q => by have := h.lt p h.pG; omega
  have hn := hf.next
  have lm' : ∀ i ∈ FM, i ∉ FL := fun i hi hi' => h.lm i hi' hi
  have um' : ∀ i ∈ FM, i ∉ FU := fun i hi hi' => h.um i hi' hi
  have nin : ∀ {FX : List Nat}, (∀ i ∈ FX, i ∈ G) → (∀ i ∈ FM, i ∉ FX) → ∀ i ∈ F', i ∉ FX := fun {FX} hx h1 i hi hi' => (hF i hi).elim (fun q => h1 i q hi') fun q => by have := h.lt i (hx i hi'); omega
  have keep : ∀ {FX : List Nat} {size : Nat} {v : Value} {rows : List (List Value)}, Own2 size FX m v rows → (∀ i ∈ FM, i ∉ FX) → p ∉ FX → Own2 size FX m2 v rows := fun {FX size v rows} h1 h2 h3 =>
    (h1.fr hf fun i hi q => h2 i q hi).fr s3 fun i hi (e : i = p) => h3 (e ▸ hi)
  refine ⟨m2, G ++ F', s1, ⟨s2, keep h.ol lm' h.pL, keep h.ou um' h.pU, ho.fr s3 fun i hi (e : i = p) => hp' (e ▸ hi), h.pL, h.pU, hp', h.lu, fun i hi hi' => nin h.lG lm' i hi' hi, fun i hi hi' => nin h.uG um' i hi' hi, by simp [h.pG], fun i hi => by simp [h.lG i hi], fun i hi => by simp [h.uG i hi], fun i hi => by simp [hi], fun i hi => ?_⟩, (hf.mono fun i _ hi => h.mG i hi).comp s3 fun i _ (e : i = p) => e ▸ h.pG, fun i hi => ?_⟩
  · rcases List.mem_append.1 hi with hi | hi
    · have := h.lt i hi; omega
    · have := ho.lt i hi; omega
  · rcases List.mem_append.1 hi with hi | hi
    · exact .inl hi
    · exact (hF i hi).imp (h.mG i) id
theorem build5 {m : Mem} {w : Wr} : buildSliceE m ZW 5 1 [(0, .agg ⟨w.row⟩)] = some (.val (.slice (some ⟨m.next, 0, none⟩) 1 1) (m.push { cells := w.row, rw := true, spare := none, kin := [] })) := by kernel_rfl
theorem ld_wr {m : Mem} {p : Nat} {x : Wr} (hg : m.get p = some { cells := x.row, rw := true, spare := none, kin := [] }) : ldA m 5 (.pointer (some ⟨p, 0, none⟩)) = some (.val (.agg ⟨x.row⟩) m) := by
  simp [ldA, xload, hg]

/-- A key's write, or none. -/
theorem lay_spec (h : SetM G m p vl vu vm FL FU FM W us Mk) (hs : SortW W) (hl : W.length ≤ 900) :
    ∃ m' G' vl' FL', Ca 40 [Pt p, .agg ⟨w.row⟩, .bool has] m (.tuple #[]) m' ∧ SetM G' m' p vl' vu vm FL' FU FM (layW w has W) us Mk ∧ Fm (· ∈ G) m m' ∧ ∀ i ∈ G', i ∈ G ∨ m.next ≤ i := by
  obtain ⟨m1, hm1⟩ : ∃ m1, m.push { cells := w.row, rw := true, spare := none, kin := [] } = m1 := ⟨_, rfl⟩
  have g1 : m1.get m.next = some { cells := w.row, rw := true, spare := none, kin := [] } := by rw [← hm1, push_self]
  have f1 : Nx m m1 := hm1 ▸ .push
  have n1 : m1.next = m.next + 1 := by rw [← hm1]; simp
  obtain ⟨A, o, B, m2, c1, c2, c3⟩ := at_spec (k := w.key) (h.nx f1) hs (by omega)
  have h2 := (h.nx f1).nx c3
  have g2 := c3.get (by omega) (fun h => h) g1
  have l2 := ld_wr g2
  have f2 : Nx m m2 := f1.comp c3 fun _ _ h => h
  have n2 := c3.next
  have hAl := c2.len
  have hlay := c2.lay (has := has)
  have fin : ∀ {m3 : Mem} {G' : List Nat}, Fm (· ∈ G) m2 m3 → (∀ i ∈ G', i ∈ G ∨ m2.next ≤ i) → Fm (· ∈ G) m m3 ∧ ∀ i ∈ G', i ∈ G ∨ m.next ≤ i := fun hf hG =>
    ⟨(f2.mono fun _ _ h => h.elim).trans hf, fun i hi => (hG i hi).imp id fun h => by omega⟩
  have hng : m.next ∉ G := fun e => by have := h.lt _ e; omega
  cases o with
  | some x =>
    have hx : A.length < W.length := by rw [hAl]; simp only [Option.toList_some, List.length_singleton]; omega
    have hd : W.drop (A.length + 1) = B := by rw [c2.eq]; simp
    have ht : W.take A.length = A := by rw [c2.eq]; simp
    cases has with
    | true =>
      obtain ⟨id, c, m3, hv, s1, s2, s3⟩ := own_set (row := w.row) (i := A.length) h2.ol (by rw [List.length_map]; exact hx) rfl rfl
      have e : (rowsW W).set A.length w.row = rowsW (layW w true W) := by
        rw [hlay, ← List.map_set, List.set_eq_take_append_cons_drop, if_pos hx, ht, hd]; rfl
      rw [e] at s2
      have hgp := s3.get (h2.lt p h2.pG) h2.pL h2.get
      have hS : SetM G m3 p vl vu vm FL FU FM (layW w true W) us Mk := ⟨hgp, s2, h2.ou.fr s3 fun i hi q => h2.lu i q hi, h2.om.fr s3 fun i hi q => h2.lm i q hi, h.pL, h.pU, h.pM, h.lu, h.lm, h.um, h.pG, h.lG, h.uG, h.mG, fun i hi => by have := h2.lt i hi; have := s3.next; omega⟩
      obtain ⟨q1, q2⟩ := fin (G' := G) (s3.mono fun i _ hi => h.lG i hi) (fun i hi => .inl hi)
      refine ⟨m3, G, vl, FL, callX_of (call_go (F := _) rfl rfl fun Q hQ => ?_), hS, q1, q2⟩
      rw [List.length_map] at hv
      have hgv := h2.get
      subst hv
      simp only [symA, go_opsd, symB, wantedX, X.put, X.look, Arg.ev, keepOf, restrict, evs, evO, initEnv, xres, tup, noTup, cls, quiet, Nat.reduceAdd, Nat.reduceEqDiff, ↓reduceIte, reduceCtorEq, goInt, exists_eq_left', eq_self, Int.reduceLT, Int.reduceLE, Int.reduceEq, Int.reduceNeg, Int.reduceAdd, Int.reduceSub, forall_const, ne_eq, undef, Nat.reducePow, Nat.reduceDiv, Nat.reduceMod, hm1, g1, goR_call c1, Option.isSome_some, hgv, hx, l2, s1]
      exact hQ _ _ _ rfl ⟨rfl, rfl⟩
    | false =>
      obtain ⟨v', m3, d1, d2, d3⟩ := del_spec (i := A.length) h2.ol (by rw [List.length_map]; exact hx) (by rw [List.length_map]; omega)
      have e : (rowsW W).take A.length ++ (rowsW W).drop (A.length + 1) = rowsW (layW w false W) := by
        rw [hlay, ← List.map_take, ← List.map_drop, ht, hd, ← List.map_append]; rfl
      rw [e] at d2
      obtain ⟨m4, G', s1, s2, s3, s4⟩ := h2.setL d3 d2 (fun i hi => .inl hi)
      obtain ⟨q1, q2⟩ := fin s3 s4
      have w1 : IntKind.i64.wrap ((A.length : Int) + 1) = ((A.length + 1 : Nat) : Int) := by rw [wrap_i64 (by omega) (by omega)]; omega
      have hgp := d3.get (h2.lt p h2.pG) h2.pL h2.get
      refine ⟨m4, G', v', FL, callX_of (call_go (F := _) rfl rfl fun Q hQ => ?_), s2, q1, q2⟩
      simp only [symA, go_opsd, symB, wantedX, X.put, X.look, Arg.ev, keepOf, restrict, evs, evO, initEnv, xres, tup, noTup, cls, quiet, Nat.reduceAdd, Nat.reduceEqDiff, ↓reduceIte, reduceCtorEq, goInt, exists_eq_left', eq_self, Int.reduceLT, Int.reduceLE, Int.reduceEq, Int.reduceNeg, Int.reduceAdd, Int.reduceSub, forall_const, ne_eq, undef, Nat.reducePow, Nat.reduceDiv, Nat.reduceMod, hm1, g1, goR_call c1, Option.isSome_some, h2.get, w1, goR_call d1, s1]
      exact hQ _ _ _ rfl ⟨rfl, rfl⟩
  | none =>
    have hd : W.drop A.length = B := by rw [c2.eq]; simp
    have ht : W.take A.length = A := by rw [c2.eq]; simp
    cases has with
    | true =>
      obtain ⟨m3, hm3⟩ : ∃ m3, m2.push { cells := w.row, rw := true, spare := none, kin := [] } = m3 := ⟨_, rfl⟩
      have g3 : m3.get m2.next = some { cells := w.row, rw := true, spare := none, kin := [] } := by rw [← hm3, push_self]
      have f3 : Nx m2 m3 := hm3 ▸ .push
      have n3 : m3.next = m2.next + 1 := by rw [← hm3]; simp
      have h3 := h2.nx f3
      have b1 := build5 (m := m2) (w := w)
      rw [hm3] at b1
      obtain ⟨v', m4, F', d1, d2, d3, d4⟩ := ins_spec (i := A.length) (row := w.row) h3.ol (by rw [List.length_map]; omega) (by rw [List.length_map]; omega) rfl g3 (fun e => by have := h2.lt _ (h2.lG _ e); omega)
      have e : (rowsW W).take A.length ++ w.row :: (rowsW W).drop A.length = rowsW (layW w true W) := by
        rw [hlay, ← List.map_take, ← List.map_drop, ht, hd]; simp
      rw [e] at d2
      obtain ⟨m5, G', s1, s2, s3, s4⟩ := h3.setL d3 d2 d4
      obtain ⟨q1, q2⟩ := fin ((f3.mono fun _ _ h => h.elim).trans s3) (fun i hi => (s4 i hi).imp id fun h => by omega)
      have l3 := ld_wr (f3.get (by omega) (fun h => h) g2)
      refine ⟨m5, G', v', F', callX_of (call_go (F := _) rfl rfl fun Q hQ => ?_), s2, q1, q2⟩
      obtain ⟨q, c, hv⟩ := own_slice h2.ol (by omega)
      rw [List.length_map] at hv
      have hgv := h2.get
      have hgv3 := h3.get
      subst hv
      simp only [symA, go_opsd, symB, wantedX, X.put, X.look, Arg.ev, keepOf, restrict, evs, evO, initEnv, xres, tup, noTup, cls, quiet, Nat.reduceAdd, Nat.reduceEqDiff, ↓reduceIte, reduceCtorEq, goInt, exists_eq_left', eq_self, Int.reduceLT, Int.reduceLE, Int.reduceEq, Int.reduceNeg, Int.reduceAdd, Int.reduceSub, forall_const, ne_eq, undef, Nat.reducePow, Nat.reduceDiv, Nat.reduceMod, hm1, g1, goR_call c1, Option.isSome_none, hgv, hgv3, l2, l3, b1, goDV3c d1, s1]
      exact hQ _ _ _ rfl ⟨rfl, rfl⟩
    | false =>
      have e : layW w false W = W := by rw [hlay, c2.eq]; simp
      rw [e]
      obtain ⟨q1, q2⟩ := fin (G' := G) .refl (fun i hi => .inl hi)
      refine ⟨m2, G, vl, FL, callX_of (call_go (F := _) rfl rfl fun Q hQ => ?_), h2, q1, q2⟩
      simp only [symA, go_opsd, symB, wantedX, X.put, X.look, Arg.ev, keepOf, restrict, evs, evO, initEnv, xres, tup, noTup, cls, quiet, Nat.reduceAdd, Nat.reduceEqDiff, ↓reduceIte, reduceCtorEq, goInt, exists_eq_left', eq_self, Int.reduceLT, Int.reduceLE, Int.reduceEq, Int.reduceNeg, Int.reduceAdd, Int.reduceSub, forall_const, ne_eq, undef, Nat.reducePow, Nat.reduceDiv, Nat.reduceMod, hm1, g1, goR_call c1, Option.isSome_none]
      exact hQ _ _ _ rfl ⟨rfl, rfl⟩
end
end Go.Proofs.Ytecceimgpeookaa
