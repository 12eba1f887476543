/-
  Own work. From the abstract run to a given statement: arguments as data.
-/
import Derived.Test.YtnlmnejellipdaaGreatXRun
import Derived.ProofKit
namespace Go.Proofs.YtnlmnejellipdaaGreat.X
open Go
set_option linter.unusedVariables false
set_option linter.unusedSimpArgs false

/-! ## Data as values -/
def contig (P : Program) : List Field → Nat → Option Nat
  | [], o => some o
  | f :: r, o => if f.offset = o then contig P r (o + P.cellsOf f.type) else none

/-- Types of plain data: numbers, bools, strings, slices, structs, arrays of such. -/
def okT (P : Program) : Nat → TypeId → Bool
  | 0, _ => false
  | n + 1, t =>
    match P.underlying t with
    | some .bool | some (.int _) | some (.float _) | some .string => true
    | some (.slice e) => decide (0 < P.cellsOf e) && okT P n e
    | some (.struct fs) => contig P fs.toList 0 == some (P.cellsOf t) && fs.toList.all (fun f => okT P n f.type)
    | some (.array k e) => decide (k * P.cellsOf e = P.cellsOf t) && okT P n e
    | _ => false

def litV : Lit → Value
  | .bool b => .bool b
  | .int k n => .int k n
  | .float k b => .float k b
  | .string s => .string ⟨s.toArray⟩
  | .nil => .nilFunc

mutual
def absD {H : Type} (P : Program) : DataW H → TypeId → Mem → List Value × Mem
  | .lit l, _, m => ([litV l], m)
  | .nil, _, m => ([.slice none 0 0], m)
  | .slice es sp, t, m =>
    match P.underlying t with
    | some (.slice e) =>
      if es.length + sp.length = 0 then ([.slice (some ⟨0, 0, some 1⟩) 0 0], m) else
      ([.slice (some ⟨(absAll P sp e (absAll P es e m).2).2.next, 0, none⟩) es.length (es.length + sp.length)],
        (absAll P sp e (absAll P es e m).2).2.push { cells := (absAll P es e m).1 ++ (absAll P sp e (absAll P es e m).2).1, rw := false, spare := none, kin := [] })
    | _ => ([], m)
  | .agg ps, t, m =>
    match P.underlying t with
    | some (.struct fs) => absEach P ps (fs.toList.map (·.type)) m
    | some (.array _ e) => absAll P ps e m
    | _ => ([], m)
  | .ptr _, _, m => ([], m)
  | .iface _ _, _, m => ([], m)
  | .map _, _, m => ([], m)
  | .held _, _, m => ([], m)
def absAll {H : Type} (P : Program) : List (DataW H) → TypeId → Mem → List Value × Mem
  | [], _, m => ([], m)
  | d :: r, e, m => ((absD P d e m).1 ++ (absAll P r e (absD P d e m).2).1, (absAll P r e (absD P d e m).2).2)
def absEach {H : Type} (P : Program) : List (DataW H) → List TypeId → Mem → List Value × Mem
  | d :: r, t :: ts, m => ((absD P d t m).1 ++ (absEach P r ts (absD P d t m).2).1, (absEach P r ts (absD P d t m).2).2)
  | _, _, m => ([], m)
end

mutual
/-- What is known of data of a type. -/
def wfD {H : Type} (P : Program) : DataW H → TypeId → Prop
  | .lit l, t => (match P.underlying t, l with
    | some .bool, .bool _ => True
    | some (.int k), .int k' n => k' = k ∧ k.min ≤ n ∧ n ≤ k.max
    | some (.float k), .float k' _ => k' = k
    | some .string, .string s => s.length ≤ 9223372036854775807
    | _, _ => False)
  | .nil, t => (match P.underlying t with | some (.slice _) => True | _ => False)
  | .slice es sp, t => (match P.underlying t with
    | some (.slice e) => es.length + sp.length ≤ 9223372036854775807 ∧ wfAll P es e ∧ wfAll P sp e
    | _ => False)
  | .agg ps, t => (match P.underlying t with
    | some (.struct fs) => wfEach P ps (fs.toList.map (·.type))
    | some (.array n e) => ps.length = n ∧ wfAll P ps e
    | _ => False)
  | .ptr _, _ => False
  | .iface _ _, _ => False
  | .map _, _ => False
  | .held _, _ => False
def wfAll {H : Type} (P : Program) : List (DataW H) → TypeId → Prop
  | [], _ => True
  | d :: r, e => wfD P d e ∧ wfAll P r e
def wfEach {H : Type} (P : Program) : List (DataW H) → List TypeId → Prop
  | [], [] => True
  | d :: r, t :: ts => wfD P d t ∧ wfEach P r ts
  | _, _ => False
end

/-- Memory that is read only. -/
def RO (m : Mem) : Prop := ∀ i o, m.get i = some o → o.rw = false

structure Imp (ρ : Rho) (m : Mem) (w : World) (ρ' : Rho) (m' : Mem) : Prop where
  ext : Ext ρ ρ'
  rel : Rel ρ' m' w
  ro : RO m'
  next : m.next ≤ m'.next
  keep : ∀ i o, m.get i = some o → m'.get i = some o

theorem Imp.refl {ρ : Rho} {m : Mem} {w : World} (h : Rel ρ m w) (hro : RO m) : Imp ρ m w ρ m := ⟨.refl _, h, hro, Nat.le_refl _, fun _ _ h => h⟩
theorem Imp.trans {ρ ρ1 ρ2 : Rho} {m m1 m2 : Mem} {w : World} (h : Imp ρ m w ρ1 m1) (h' : Imp ρ1 m1 w ρ2 m2) : Imp ρ m w ρ2 m2 :=
  ⟨h.ext.trans h'.ext, h'.rel, h'.ro, Nat.le_trans h.next h'.next, fun i o hi => h'.keep i o (h.keep i o hi)⟩

/-- One more row that is only read. -/
theorem import_row {ρ : Rho} {m : Mem} {w : World} {cells : List Value} {c : Co} (hR : Rel ρ m w) (hro : RO m) (hlt : c.blk < w.heap.size)
    (hc : ∀ (j : Nat) (v : Value), cells[j]? = some v → ∃ v', w.cell? ⟨c.blk, c.off + j, none⟩ = some v' ∧ CRel ρ v v') :
    Imp ρ m w (ρ.with m.next c) (m.push { cells, rw := false, spare := none, kin := [] }) := by
  have hf : ρ m.next = none := hR.fresh _ (Nat.le_refl _)
  have hx := Rho.with_ext c hf
  have hat : (ρ.with m.next c) m.next = some c := by simp [Rho.with]
  have hoff : ∀ i, i ≠ m.next → (ρ.with m.next c) i = ρ i := fun i h => by simp [Rho.with, h]
  have hget : ∀ i oi, (m.push { cells, rw := false, spare := none, kin := [] }).get i = some oi → (i = m.next ∧ oi = { cells, rw := false, spare := none, kin := [] }) ∨ (i ≠ m.next ∧ m.get i = some oi) := by
    intro i oi hi
    rw [Mem.get_push] at hi
    by_cases h : m.next = i
    · rw [if_pos h] at hi; cases hi; exact .inl ⟨h.symm, rfl⟩
    · rw [if_neg h] at hi; exact .inr ⟨fun e => h e.symm, hi⟩
  refine ⟨hx, ⟨?_, ?_, ?_, ?_⟩, ?_, by simp, ?_⟩
  · intro i oi ci hi hci
    rcases hget i oi hi with ⟨rfl, rfl⟩ | ⟨hne, hi'⟩
    · rw [hat] at hci
      cases hci
      exact ⟨hlt, fun j v hj => let ⟨v', h1, h2⟩ := hc j v hj; ⟨v', h1, h2.mono hx⟩, fun h => by simp at h, (fun s hs => by simp at hs), (fun k hk => by simp at hk), fun h => by simp at h, trivial⟩
    · rw [hoff i hne] at hci
      exact (hR.obj i oi ci hi' hci).later hx (Nat.le_refl _) rfl
  · intro i j oi oj ci cj hij hi hj hci hcj hrw hb
    rcases hget i oi hi with ⟨rfl, rfl⟩ | ⟨hne, hi'⟩
    · simp at hrw
    · rw [hro i oi hi'] at hrw; cases hrw
  · intro i hi
    simp only [Mem.next_push] at hi
    rw [hoff i (by omega)]
    exact hR.fresh i (by omega)
  · intro i oi hi
    simp only [Mem.next_push]
    rcases hget i oi hi with ⟨rfl, _⟩ | ⟨_, hi'⟩
    · omega
    · have := hR.alive i oi hi'; omega
  · intro i oi hi
    rcases hget i oi hi with ⟨rfl, rfl⟩ | ⟨_, hi'⟩
    · rfl
    · exact hro i oi hi'
  · intro i o hi
    rw [Mem.get_push, if_neg (by have := hR.alive i o hi; omega)]
    exact hi

/-! ## Reading -/
theorem mapM_some {α β : Type} {f : α → Option β} : ∀ {l : List α} {r : List β}, l.mapM f = some r → r.length = l.length ∧ ∀ (j : Nat) x, l[j]? = some x → ∃ y, r[j]? = some y ∧ f x = some y
  | [], r, h => by simp at h; subst h; exact ⟨rfl, fun j x hx => by simp at hx⟩
  | a :: l, r, h => by
    rw [List.mapM_cons] at h
    cases h1 : f a with
    | none => simp [h1] at h
    | some y =>
      cases h2 : l.mapM f with
      | none => simp [h1, h2] at h
      | some ys =>
        simp [h1, h2] at h
        subst h
        obtain ⟨k1, k2⟩ := mapM_some h2
        refine ⟨by simp [k1], ?_⟩
        intro j x hx
        cases j with
        | zero => simp at hx; subst hx; exact ⟨y, rfl, h1⟩
        | succ j => simp at hx; obtain ⟨z, g1, g2⟩ := k2 j x hx; exact ⟨z, by simpa using g1, g2⟩

theorem cells?_spec {w : World} {base n : Nat} {a : Addr} {cs : List Value} (h : w.cells? base a n = some cs) : cs.length = n ∧ ∀ j, j < n → ∃ v, cs[j]? = some v ∧ w.cell? (a.add j) = some v := by
  unfold World.cells? at h
  split at h
  · obtain ⟨h1, h2⟩ := mapM_some h
    refine ⟨by simpa using h1, fun j hj => ?_⟩
    obtain ⟨y, g1, g2⟩ := h2 j j (by simp [hj])
    exact ⟨y, g1, g2⟩
  · cases h

theorem cell?_spot {w : World} {a : Addr} {v : Value} (h : w.cell? a = some v) : a.spot = none ∧ a.block < w.heap.size := by
  have hlt := World.block_lt_of_cell? w a h
  refine ⟨?_, hlt⟩
  unfold World.cell? at h
  split at h
  · cases hs : a.spot with
    | none => rfl
    | some s => simp [hs] at h
  · cases h

section
variable {H : Type} {enc : TypeId × Value → H} {P : Program} {w : World} {base : Nat} {sp : Nat → Bool} {held : Bool}

/-- What reading tells, at a given depth. -/
def ReadsOk (H : Type) (enc : TypeId × Value → H) (P : Program) (w : World) (base : Nat) (sp : Nat → Bool) (held : Bool) (fuel : Nat) : Prop :=
  ∀ (k : Nat) (t : TypeId) (d : DataW H) (cs : List Value) (ps : List MemPlace) (ρ : Rho) (m : Mem), okT P k t = true → DataW.trod enc P w base sp held fuel t cs = some (d, ps) → Rel ρ m w → RO m →
    ∃ ρ', Imp ρ m w ρ' (absD P d t m).2 ∧ CsRel ρ' (absD P d t m).1 cs ∧ wfD P d t

theorem absAll_ok {fuel : Nat} (ih : ReadsOk H enc P w base sp held fuel) {k : Nat} {e : TypeId} (hk : okT P k e = true) :
    ∀ (xs : List (DataW H × List MemPlace)) (css : List (List Value)) (ρ : Rho) (m : Mem), css.length = xs.length → (∀ (j : Nat) x cs, xs[j]? = some x → css[j]? = some cs → DataW.trod enc P w base sp held fuel e cs = some x) → Rel ρ m w → RO m →
      ∃ ρ', Imp ρ m w ρ' (absAll P (xs.map (·.1)) e m).2 ∧ CsRel ρ' (absAll P (xs.map (·.1)) e m).1 css.flatten ∧ wfAll P (xs.map (·.1)) e
  | [], css, ρ, m, hl, h, hR, hro => by
    have : css = [] := List.eq_nil_of_length_eq_zero (by simpa using hl)
    subst this
    exact ⟨ρ, by simpa [absAll] using Imp.refl hR hro, by simp [absAll]; exact .nil, by simp [wfAll]⟩
  | x :: xs, [], ρ, m, hl, h, hR, hro => by simp at hl
  | x :: xs, cs :: css, ρ, m, hl, h, hR, hro => by
    obtain ⟨ρ1, i1, c1, w1⟩ := ih k e x.1 cs x.2 ρ m hk (h 0 x cs rfl rfl) hR hro
    obtain ⟨ρ2, i2, c2, w2⟩ := absAll_ok ih hk xs css ρ1 (absD P x.1 e m).2 (by simpa using hl) (fun j y ds hy hd => h (j + 1) y ds (by simpa using hy) (by simpa using hd)) i1.rel i1.ro
    simp only [List.map_cons, absAll, List.flatten_cons, wfAll]
    exact ⟨ρ2, i1.trans i2, (c1.mono i2.ext).append c2, w1, w2⟩

theorem absEach_ok {fuel : Nat} (ih : ReadsOk H enc P w base sp held fuel) {k : Nat} :
    ∀ (ts : List TypeId) (xs : List (DataW H × List MemPlace)) (css : List (List Value)) (ρ : Rho) (m : Mem), (∀ t ∈ ts, okT P k t = true) → xs.length = ts.length → css.length = xs.length →
      (∀ (j : Nat) t x cs, ts[j]? = some t → xs[j]? = some x → css[j]? = some cs → DataW.trod enc P w base sp held fuel t cs = some x) → Rel ρ m w → RO m →
      ∃ ρ', Imp ρ m w ρ' (absEach P (xs.map (·.1)) ts m).2 ∧ CsRel ρ' (absEach P (xs.map (·.1)) ts m).1 css.flatten ∧ wfEach P (xs.map (·.1)) ts
  | [], [], css, ρ, m, hk, hl, hl2, h, hR, hro => by
    have : css = [] := List.eq_nil_of_length_eq_zero (by simpa using hl2)
    subst this
    exact ⟨ρ, by simpa [absEach] using Imp.refl hR hro, by simp [absEach]; exact .nil, by simp [wfEach]⟩
  | [], _ :: _, css, ρ, m, hk, hl, hl2, h, hR, hro => by simp at hl
  | _ :: _, [], css, ρ, m, hk, hl, hl2, h, hR, hro => by simp at hl
  | t :: ts, x :: xs, [], ρ, m, hk, hl, hl2, h, hR, hro => by simp at hl2
  | t :: ts, x :: xs, cs :: css, ρ, m, hk, hl, hl2, h, hR, hro => by
    obtain ⟨ρ1, i1, c1, w1⟩ := ih k t x.1 cs x.2 ρ m (hk t (by simp)) (h 0 t x cs rfl rfl rfl) hR hro
    obtain ⟨ρ2, i2, c2, w2⟩ := absEach_ok ih ts xs css ρ1 (absD P x.1 t m).2 (fun u hu => hk u (by simp [hu])) (by simpa using hl) (by simpa using hl2)
      (fun j u y ds hu hy hd => h (j + 1) u y ds (by simpa using hu) (by simpa using hy) (by simpa using hd)) i1.rel i1.ro
    simp only [List.map_cons, absEach, List.flatten_cons, wfEach]
    exact ⟨ρ2, i1.trans i2, (c1.mono i2.ext).append c2, w1, w2⟩

theorem chunks_flatten : ∀ (fs : List Field) (o n : Nat) (cs : List Value), contig P fs o = some n → cs.length = n → (fs.map fun f => (cs.drop f.offset).take (P.cellsOf f.type)).flatten = cs.drop o
  | [], o, n, cs, h, hl => by simp [contig] at h; subst h; simp [← hl]
  | f :: fs, o, n, cs, h, hl => by
    simp only [contig] at h
    split at h
    · rename_i ho
      have ih := chunks_flatten fs _ n cs h hl
      simp only [List.map_cons, List.flatten_cons, ih, ho]
      rw [← List.drop_drop, List.take_append_drop]
    · cases h

theorem rows_flatten (cs : List Value) (s : Nat) : ∀ n o, ((List.range' o n).map fun i => (cs.drop (i * s)).take s).flatten = (cs.drop (o * s)).take (n * s)
  | 0, o => by simp
  | n + 1, o => by
    rw [List.range'_succ, List.map_cons, List.flatten_cons, rows_flatten cs s n (o + 1), Nat.succ_mul o s, ← List.drop_drop, Nat.succ_mul n s, Nat.add_comm (n * s) s, List.take_add]

theorem flatten_get (s : Nat) : ∀ (css : List (List Value)) (j : Nat) (v : Value), (∀ c ∈ css, c.length = s) → css.flatten[j]? = some v → ∃ i k c, j = i * s + k ∧ k < s ∧ css[i]? = some c ∧ c[k]? = some v
  | [], j, v, _, h => by simp at h
  | c :: css, j, v, hl, h => by
    have hc := hl c (by simp)
    rw [List.flatten_cons, List.getElem?_append] at h
    split at h
    · rename_i hj; exact ⟨0, j, c, by omega, by omega, rfl, h⟩
    · rename_i hj
      obtain ⟨i, k, c', h1, h2, h3, h4⟩ := flatten_get s css _ v (fun x hx => hl x (by simp [hx])) h
      exact ⟨i + 1, k, c', by rw [Nat.succ_mul]; omega, h2, by simpa using h3, h4⟩

theorem trod_bool {fuel : Nat} {t : TypeId} {cs : List Value} {d : DataW H} {ps : List MemPlace} (hu : P.underlying t = some .bool) (h : DataW.trod enc P w base sp held (fuel + 1) t cs = some (d, ps)) :
    ∃ b, cs = [.bool b] ∧ d = .lit (.bool b) := by
  unfold DataW.trod at h
  rw [hu] at h
  match cs, h with
  | [.bool b], h => simp at h; exact ⟨b, rfl, h.1.symm⟩

theorem trod_int {fuel : Nat} {t : TypeId} {k : IntKind} {cs : List Value} {d : DataW H} {ps : List MemPlace} (hu : P.underlying t = some (.int k)) (h : DataW.trod enc P w base sp held (fuel + 1) t cs = some (d, ps)) :
    ∃ n, cs = [.int k n] ∧ d = .lit (.int k n) ∧ k.min ≤ n ∧ n ≤ k.max := by
  unfold DataW.trod at h
  rw [hu] at h
  match cs, h with
  | [.int k' n], h =>
    simp only at h
    split at h
    · rename_i hc
      obtain ⟨rfl, hw⟩ := hc
      simp [Lit.wf] at hw
      simp at h
      exact ⟨n, rfl, h.1.symm, hw.1, hw.2⟩
    · cases h

theorem trod_float {fuel : Nat} {t : TypeId} {k : FloatKind} {cs : List Value} {d : DataW H} {ps : List MemPlace} (hu : P.underlying t = some (.float k)) (h : DataW.trod enc P w base sp held (fuel + 1) t cs = some (d, ps)) :
    ∃ n, cs = [.float k n] ∧ d = .lit (.float k n) := by
  unfold DataW.trod at h
  rw [hu] at h
  match cs, h with
  | [.float k' n], h =>
    simp only at h
    split at h
    · rename_i hc
      obtain ⟨rfl, hw⟩ := hc
      simp at h
      exact ⟨n, rfl, h.1.symm⟩
    · cases h

theorem trod_string {fuel : Nat} {t : TypeId} {cs : List Value} {d : DataW H} {ps : List MemPlace} (hu : P.underlying t = some .string) (h : DataW.trod enc P w base sp held (fuel + 1) t cs = some (d, ps)) :
    ∃ s : ByteArray, cs = [.string s] ∧ d = .lit (.string s.data.toList) ∧ s.size ≤ 9223372036854775807 := by
  unfold DataW.trod at h
  rw [hu] at h
  match cs, h with
  | [.string s], h =>
    simp only at h
    split at h
    · rename_i hc
      simp at h
      exact ⟨s, rfl, h.1.symm, by unfold maxLen at hc; omega⟩
    · cases h

theorem trod_struct {fuel : Nat} {t : TypeId} {fs : Array Field} {cs : List Value} {d : DataW H} {ps : List MemPlace} (hu : P.underlying t = some (.struct fs)) (h : DataW.trod enc P w base sp held (fuel + 1) t cs = some (d, ps)) :
    cs.length = P.cellsOf t ∧ ∃ xs, (fs.toList.mapM fun f => DataW.trod enc P w base sp held fuel f.type ((cs.drop f.offset).take (P.cellsOf f.type))) = some xs ∧ d = .agg (xs.map (·.1)) := by
  unfold DataW.trod at h
  rw [hu] at h
  simp only at h
  split at h
  · rename_i hc
    obtain ⟨xs, h1, h2⟩ := map_some' h
    simp at h2
    exact ⟨hc, xs, h1, h2.1.symm⟩
  · cases h

theorem trod_array {fuel : Nat} {t : TypeId} {n : Nat} {e : TypeId} {cs : List Value} {d : DataW H} {ps : List MemPlace} (hu : P.underlying t = some (.array n e)) (h : DataW.trod enc P w base sp held (fuel + 1) t cs = some (d, ps)) :
    cs.length = P.cellsOf t ∧ ∃ xs, ((List.range n).mapM fun i => DataW.trod enc P w base sp held fuel e ((cs.drop (i * P.cellsOf e)).take (P.cellsOf e))) = some xs ∧ d = .agg (xs.map (·.1)) := by
  unfold DataW.trod at h
  rw [hu] at h
  simp only at h
  split at h
  · rename_i hc
    obtain ⟨xs, h1, h2⟩ := map_some' h
    simp at h2
    exact ⟨hc, xs, h1, h2.1.symm⟩
  · cases h

theorem trod_slice {fuel : Nat} {t e : TypeId} {cs : List Value} {d : DataW H} {ps : List MemPlace} (hu : P.underlying t = some (.slice e)) (h : DataW.trod enc P w base (fun _ => true) held (fuel + 1) t cs = some (d, ps)) :
    (cs = [.slice none 0 0] ∧ d = .nil) ∨ ∃ a len cap xs ys, cs = [.slice (some a) len cap] ∧ d = .slice (xs.map (·.1)) (ys.map (·.1)) ∧ len ≤ cap ∧ cap ≤ 9223372036854775807 ∧
      ((List.range len).mapM fun i => (w.cells? base (a.add (i * P.cellsOf e)) (P.cellsOf e)).bind (DataW.trod enc P w base (fun _ => true) held fuel e)) = some xs ∧
      ((List.range (cap - len)).mapM fun j => (w.cells? base (a.add ((len + j) * P.cellsOf e)) (P.cellsOf e)).bind (DataW.trod enc P w base (fun _ => true) held fuel e)) = some ys := by
  unfold DataW.trod at h
  rw [hu] at h
  match cs, h with
  | [.slice none 0 0], h => simp at h; exact .inl ⟨rfl, h.1.symm⟩
  | [.slice (some a) len cap], h =>
    right
    simp only at h
    split at h
    case isFalse => cases h
    rename_i hc
    obtain ⟨xs, h1, h⟩ := bind_some' h
    obtain ⟨ys, h2, h⟩ := map_some' h
    simp at h
    exact ⟨a, len, cap, xs, ys, rfl, h.1.symm, hc.2.1, by have := hc.2.2; unfold maxLen at this; omega, h1, by simpa using h2⟩

theorem elems_spec {fuel n : Nat} {e : TypeId} {at_ : Nat → Addr} {xs : List (DataW H × List MemPlace)}
    (h : ((List.range n).mapM fun i => (w.cells? base (at_ i) (P.cellsOf e)).bind (DataW.trod enc P w base sp held fuel e)) = some xs) :
    xs.length = n ∧ ∃ css : List (List Value), css.length = xs.length ∧ (∀ (j : Nat) x cs, xs[j]? = some x → css[j]? = some cs → DataW.trod enc P w base sp held fuel e cs = some x) ∧ (∀ c ∈ css, c.length = P.cellsOf e) ∧
      ∀ (i : Nat) c, css[i]? = some c → ∀ (k : Nat) v, c[k]? = some v → w.cell? ((at_ i).add k) = some v := by
  obtain ⟨h1, h2⟩ := mapM_some h
  have h1' : xs.length = n := by simpa using h1
  refine ⟨h1', (List.range n).map fun i => (w.cells? base (at_ i) (P.cellsOf e)).getD [], by simp [h1'], ?_, ?_, ?_⟩
  · intro j x cs hx hc
    have hj : j < n := by rw [← h1']; exact (List.getElem?_eq_some_iff.1 hx).1
    obtain ⟨y, g1, g2⟩ := h2 j j (by simp [hj])
    rw [hx] at g1
    cases g1
    obtain ⟨cs', k1, k2⟩ := bind_some' g2
    simp [hj, k1] at hc
    subst hc
    exact k2
  · intro c hc
    obtain ⟨i, hi, rfl⟩ := List.mem_map.1 hc
    simp at hi
    obtain ⟨y, g1, g2⟩ := h2 i i (by simp [hi])
    obtain ⟨cs', k1, k2⟩ := bind_some' g2
    rw [k1]
    exact (cells?_spec k1).1
  · intro i c hc k v hv
    have hi : i < n := by
      have := (List.getElem?_eq_some_iff.1 hc).1
      simpa using this
    obtain ⟨y, g1, g2⟩ := h2 i i (by simp [hi])
    obtain ⟨cs', k1, k2⟩ := bind_some' g2
    simp [hi, k1] at hc
    subst hc
    obtain ⟨q1, q2⟩ := cells?_spec k1
    have hk : k < P.cellsOf e := by rw [← q1]; exact (List.getElem?_eq_some_iff.1 hv).1
    obtain ⟨v', r1, r2⟩ := q2 k hk
    rw [hv] at r1
    cases r1
    exact r2

theorem reads_ok (fuel : Nat) : ReadsOk H enc P w base (fun _ => true) held fuel := by
  induction fuel with
  | zero => intro k t d cs ps ρ m _ h _ _; simp [DataW.trod] at h
  | succ fuel ih =>
    intro k t d cs ps ρ m hk h hR hro
    cases k with
    | zero => simp [okT] at hk
    | succ k =>
      simp only [okT] at hk
      cases hu : P.underlying t with
      | none => simp [hu] at hk
      | some td =>
        rw [hu] at hk
        cases td with
        | bool =>
          obtain ⟨b, rfl, rfl⟩ := trod_bool hu h
          exact ⟨ρ, by simpa [absD] using Imp.refl hR hro, by simp only [absD, litV]; exact .cons (.plain rfl) .nil, by simp [wfD, hu]⟩
        | int q =>
          obtain ⟨n, rfl, rfl, h1, h2⟩ := trod_int hu h
          exact ⟨ρ, by simpa [absD] using Imp.refl hR hro, by simp only [absD, litV]; exact .cons (.plain rfl) .nil, by simp [wfD, hu]; exact ⟨h1, h2⟩⟩
        | float q =>
          obtain ⟨n, rfl, rfl⟩ := trod_float hu h
          exact ⟨ρ, by simpa [absD] using Imp.refl hR hro, by simp only [absD, litV]; exact .cons (.plain rfl) .nil, by simp [wfD, hu]⟩
        | string =>
          obtain ⟨s, rfl, rfl, hs⟩ := trod_string hu h
          refine ⟨ρ, by simpa [absD] using Imp.refl hR hro, by simp only [absD, litV]; exact .cons (.plain rfl) .nil, ?_⟩
          simp only [wfD, hu, Array.length_toList]
          exact hs
        | slice e =>
          simp only [Bool.and_eq_true, decide_eq_true_eq] at hk
          rcases trod_slice hu h with ⟨rfl, rfl⟩ | ⟨a, len, cap, xs, ys, rfl, rfl, hlc, hcap, hx, hy⟩
          · exact ⟨ρ, by simpa [absD] using Imp.refl hR hro, by simp only [absD]; exact .cons (.plain rfl) .nil, by simp [wfD, hu]⟩
          · obtain ⟨lx, css1, c1l, c1, c1s, c1c⟩ := elems_spec hx
            obtain ⟨ly, css2, c2l, c2, c2s, c2c⟩ := elems_spec hy
            obtain ⟨ρ1, i1, r1, w1⟩ := absAll_ok ih hk.2 xs css1 ρ m c1l c1 hR hro
            obtain ⟨ρ2, i2, r2, w2⟩ := absAll_ok ih hk.2 ys css2 ρ1 (absAll P (xs.map (·.1)) e m).2 c2l c2 i1.rel i1.ro
            have hsum : xs.length + ys.length = cap := by omega
            have hwf : wfD P (.slice (xs.map (·.1)) (ys.map (·.1))) t := by
              simp only [wfD, hu, List.length_map]
              exact ⟨by omega, w1, w2⟩
            simp only [absD, hu, List.length_map]
            by_cases h0 : xs.length + ys.length = 0
            · rw [if_pos h0]
              have e1 : len = 0 := by omega
              have e2 : cap = 0 := by omega
              subst e1
              subst e2
              exact ⟨ρ, Imp.refl hR hro, .cons (.zero rfl) .nil, hwf⟩
            · rw [if_neg h0]
              -- all cells
              have hcells : ∀ (j : Nat) v', (css1.flatten ++ css2.flatten)[j]? = some v' → w.cell? ⟨a.block, a.off + j, none⟩ = some v' ∧ a.spot = none := by
                intro j v' hj
                rw [← List.flatten_append] at hj
                obtain ⟨i, q, c, e1, e2, e3, e4⟩ := flatten_get (P.cellsOf e) (css1 ++ css2) j v' (fun c hc => by
                  rcases List.mem_append.1 hc with h | h
                  · exact c1s c h
                  · exact c2s c h) hj
                have hcell : w.cell? ((a.add (i * P.cellsOf e)).add q) = some v' := by
                  rw [List.getElem?_append] at e3
                  split at e3
                  · exact c1c i c e3 q v' e4
                  · rename_i hge
                    have := c2c _ c e3 q v' e4
                    rwa [show len + (i - css1.length) = i by omega] at this
                have hspot : a.spot = none := by
                  -- the first cell of all
                  have hz : ∃ c0, (css1 ++ css2)[0]? = some c0 ∧ c0.length = P.cellsOf e := by
                    have hpos : 0 < (css1 ++ css2).length := by simp; omega
                    refine ⟨(css1 ++ css2)[0], by rw [List.getElem?_eq_getElem], ?_⟩
                    have hm := List.getElem_mem (l := css1 ++ css2) hpos
                    rcases List.mem_append.1 hm with h | h
                    · exact c1s _ h
                    · exact c2s _ h
                  obtain ⟨c0, hc0, hl0⟩ := hz
                  have hv0 : c0[0]? = some c0[0] := by rw [List.getElem?_eq_getElem]
                  rw [List.getElem?_append] at hc0
                  split at hc0
                  · have := c1c 0 c0 hc0 0 _ hv0
                    simp only [Nat.zero_mul] at this
                    have hadd : (a.add 0).add 0 = a := rfl
                    rw [hadd] at this
                    exact (cell?_spot this).1
                  · rename_i hge
                    have := c2c _ c0 hc0 0 _ hv0
                    rw [show len + (0 - css1.length) = 0 by omega, Nat.zero_mul] at this
                    have hadd : (a.add 0).add 0 = a := rfl
                    rw [hadd] at this
                    exact (cell?_spot this).1
                refine ⟨?_, hspot⟩
                obtain ⟨ab, ao, as⟩ := a
                simp only at hspot
                subst hspot
                rw [Addr.add_lit, Addr.add_lit] at hcell
                simp only at hcell ⊢
                rw [e1, ← Nat.add_assoc]; exact hcell
              have hrel : CsRel ρ2 ((absAll P (xs.map (·.1)) e m).1 ++ (absAll P (ys.map (·.1)) e (absAll P (xs.map (·.1)) e m).2).1) (css1.flatten ++ css2.flatten) := (r1.mono i2.ext).append r2
              have hlen : 0 < (css1.flatten ++ css2.flatten).length := by
                have hall : ∀ c ∈ css1 ++ css2, c.length = P.cellsOf e := fun c hc => by
                  rcases List.mem_append.1 hc with h | h
                  · exact c1s c h
                  · exact c2s c h
                rw [← List.flatten_append]
                have hpos : 0 < (css1 ++ css2).length := by simp; omega
                cases hcc : css1 ++ css2 with
                | nil => rw [hcc] at hpos; simp at hpos
                | cons c cs =>
                  have := hall c (by rw [hcc]; simp)
                  simp; omega
              obtain ⟨v0, hv0⟩ : ∃ v0, (css1.flatten ++ css2.flatten)[0]? = some v0 := ⟨_, by rw [List.getElem?_eq_getElem hlen]⟩
              obtain ⟨q1, hspot⟩ := hcells 0 v0 hv0
              have hlt : a.block < w.heap.size := (cell?_spot q1).2
              have hi := import_row (c := ⟨a.block, a.off, 0, 0⟩) (i1.trans i2).rel (i1.trans i2).ro hlt (fun j v hj => by
                obtain ⟨v', g1, g2⟩ := hrel.get j v hj
                exact ⟨v', (hcells j v' g1).1, g2⟩)
              refine ⟨_, (i1.trans i2).trans hi, .cons ?_ .nil, hwf⟩
              have hsl := CRel.slice (ρ := ρ2.with (absAll P (ys.map (·.1)) e (absAll P (xs.map (·.1)) e m).2).2.next ⟨a.block, a.off, 0, 0⟩) (a := ⟨(absAll P (ys.map (·.1)) e (absAll P (xs.map (·.1)) e m).2).2.next, 0, none⟩) (c := ⟨a.block, a.off, 0, 0⟩) (len := xs.length) (cap := xs.length + ys.length)
                rfl (by simp [Rho.with]) (by omega)
              obtain ⟨ab, ao, as⟩ := a
              simp only at hspot
              subst hspot
              rw [hsum, show xs.length = len by omega] at hsl
              rw [hsum, show xs.length = len by omega]
              exact hsl
        | struct fs =>
          simp only [Bool.and_eq_true, beq_iff_eq] at hk
          obtain ⟨hlen, xs, hx, rfl⟩ := trod_struct hu h
          obtain ⟨l1, l2⟩ := mapM_some hx
          have hfl := chunks_flatten fs.toList 0 _ cs hk.1 hlen
          simp only [List.drop_zero] at hfl
          obtain ⟨ρ1, i1, r1, w1⟩ := absEach_ok ih (k := k) (fs.toList.map (·.type)) xs (fs.toList.map fun f => (cs.drop f.offset).take (P.cellsOf f.type)) ρ m
            (fun u hu' => by obtain ⟨f, hf, rfl⟩ := List.mem_map.1 hu'; exact (List.all_eq_true.1 hk.2) f hf) (by simp [l1]) (by simp [l1])
            (fun j u x c hu' hx' hc' => by
              rw [List.getElem?_map] at hu' hc'
              cases hf : fs.toList[j]? with
              | none => rw [hf] at hu'; cases hu'
              | some f =>
                rw [hf] at hu' hc'
                simp at hu' hc'
                obtain ⟨y, g1, g2⟩ := l2 j f hf
                rw [hx'] at g1
                cases g1
                rw [← hu', ← hc']; exact g2) hR hro
          refine ⟨ρ1, by simpa [absD, hu] using i1, ?_, by simpa [wfD, hu] using w1⟩
          rw [hfl] at r1
          simpa [absD, hu] using r1
        | array n e =>
          simp only [Bool.and_eq_true, decide_eq_true_eq] at hk
          obtain ⟨hlen, xs, hx, rfl⟩ := trod_array hu h
          obtain ⟨l1, l2⟩ := mapM_some hx
          have hfl := rows_flatten cs (P.cellsOf e) n 0
          rw [← List.range_eq_range', Nat.zero_mul, List.drop_zero, List.take_of_length_le (by omega)] at hfl
          obtain ⟨ρ1, i1, r1, w1⟩ := absAll_ok ih hk.2 xs ((List.range n).map fun i => (cs.drop (i * P.cellsOf e)).take (P.cellsOf e)) ρ m (by simp [l1])
            (fun j x c hx' hc' => by
              have hj : j < n := by have := (List.getElem?_eq_some_iff.1 hx').1; rw [l1] at this; simpa using this
              obtain ⟨y, g1, g2⟩ := l2 j j (by simp [hj])
              rw [hx'] at g1
              cases g1
              simp [hj] at hc'
              rw [← hc']; exact g2) hR hro
          refine ⟨ρ1, by simpa [absD, hu] using i1, ?_, by simp only [wfD, hu, List.length_map]; exact ⟨by simpa using l1, w1⟩⟩
          rw [hfl] at r1
          simpa [absD, hu] using r1
        | _ => simp at hk

def argVal (P : Program) (t : TypeId) (cells : List Value) : Value :=
  match aggP P t with
  | some true => .agg cells.toArray
  | _ => cells.headD undef

def absArgs (P : Program) : List (DataW H) → List TypeId → Mem → List Value × Mem
  | d :: ds, t :: ts, m => (argVal P t (absD P d t m).1 :: (absArgs P ds ts (absD P d t m).2).1, (absArgs P ds ts (absD P d t m).2).2)
  | _, _, m => ([], m)

theorem argVal_rel {ρ : Rho} {t : TypeId} {k base' : Nat} {v : Value} {cells : List Value} (hk : okT P k t = true) (hval : Value.okWide P w .any base' t v) (hc : CsRel ρ cells v.cells.toList) : VRel ρ (argVal P t cells) v := by
  cases k with
  | zero => simp [okT] at hk
  | succ k =>
    simp only [okT] at hk
    have hone : (∀ cs, v ≠ .agg cs) → (∀ cs, v ≠ .tuple cs) → aggP P t = some false → VRel ρ (argVal P t cells) v := by
      intro h1 h2 h3
      have hcells : v.cells = #[v] := by cases v <;> first | rfl | exact absurd rfl (h1 _)
      rw [hcells] at hc
      cases hc with
      | cons h tl =>
        cases tl
        simp only [argVal, h3]
        exact .cell h
    cases hu : P.underlying t with
    | none => simp [hu] at hk
    | some td =>
      rw [hu] at hk
      unfold Value.okWide at hval
      rw [hu] at hval
      have hagg : (∃ cs, v = .agg cs) → aggP P t = some true → VRel ρ (argVal P t cells) v := by
        rintro ⟨cs, rfl⟩ h3
        simp only [argVal, h3]
        exact .agg (by simpa [Value.cells] using hc)
      cases td with
      | struct fs => obtain ⟨cs, rfl, _⟩ := hval; exact hagg ⟨cs, rfl⟩ (by simp [aggP, hu])
      | array n e => obtain ⟨cs, rfl, _⟩ := hval; exact hagg ⟨cs, rfl⟩ (by simp [aggP, hu])
      | bool =>
        simp only [Cell.okWide, hu] at hval
        refine hone (fun cs h => ?_) (fun cs h => ?_) (by simp [aggP, hu]) <;> subst h <;> simp [Cell.ok, hu] at hval
      | int q =>
        simp only [Cell.okWide, hu] at hval
        refine hone (fun cs h => ?_) (fun cs h => ?_) (by simp [aggP, hu]) <;> subst h <;> simp [Cell.ok, hu] at hval
      | float q =>
        simp only [Cell.okWide, hu] at hval
        refine hone (fun cs h => ?_) (fun cs h => ?_) (by simp [aggP, hu]) <;> subst h <;> simp [Cell.ok, hu] at hval
      | string =>
        simp only [Cell.okWide, hu] at hval
        refine hone (fun cs h => ?_) (fun cs h => ?_) (by simp [aggP, hu]) <;> subst h <;> simp [Cell.ok, hu] at hval
      | slice e =>
        simp only [Cell.okWide, hu] at hval
        refine hone (fun cs h => ?_) (fun cs h => ?_) (by simp [aggP, hu]) <;> subst h <;> simp [Cell.ok, hu] at hval
      | _ => simp at hk

theorem args_ok {k base' : Nat} : ∀ (ts : List TypeId) (vs : List Value) (ds : List (DataW H)) (p : List MemPlace) (ρ : Rho) (m : Mem), DataW.TrodAll enc P w base (fun _ => true) held ts vs ds p → (∀ t ∈ ts, okT P k t = true) →
    (∀ (j : Nat) t v, ts[j]? = some t → vs[j]? = some v → Value.okWide P w .any base' t v) → Rel ρ m w → RO m →
    ∃ ρ', Imp ρ m w ρ' (absArgs P ds ts m).2 ∧ VsRel ρ' (absArgs P ds ts m).1 vs ∧ wfEach P ds ts
  | [], [], [], p, ρ, m, h, hk, hv, hR, hro => ⟨ρ, by simpa [absArgs] using Imp.refl hR hro, by simp only [absArgs]; exact .nil, by simp [wfEach]⟩
  | t :: ts, v :: vs, d :: ds, p, ρ, m, h, hk, hv, hR, hro => by
    obtain ⟨p1, q1, ⟨fuel, h1⟩, h2, _⟩ := h
    obtain ⟨ρ1, i1, c1, w1⟩ := reads_ok fuel k t d v.cells.toList p1 ρ m (hk t (by simp)) h1 hR hro
    obtain ⟨ρ2, i2, c2, w2⟩ := args_ok ts vs ds q1 ρ1 (absD P d t m).2 h2 (fun u hu => hk u (by simp [hu])) (fun j u x hu hx => hv (j + 1) u x (by simpa using hu) (by simpa using hx)) i1.rel i1.ro
    refine ⟨ρ2, i1.trans i2, ?_, by simp only [wfEach]; exact ⟨w1, w2⟩⟩
    simp only [absArgs]
    exact .cons ((argVal_rel (hk t (by simp)) (hv 0 t v rfl rfl) c1).mono i2.ext) c2
  | [], _ :: _, _, p, ρ, m, h, hk, hv, hR, hro => by simp [DataW.TrodAll] at h
  | [], [], _ :: _, p, ρ, m, h, hk, hv, hR, hro => by simp [DataW.TrodAll] at h
  | _ :: _, [], _, p, ρ, m, h, hk, hv, hR, hro => by simp [DataW.TrodAll] at h
  | _ :: _, _ :: _, [], p, ρ, m, h, hk, hv, hR, hro => by simp [DataW.TrodAll] at h

theorem trodAll_stays (hl : laidOutB P = true) {W W' : World} {sp' : Nat → Bool} : ∀ (ts : List TypeId) (vs : List Value) (ds : List (DataW H)) (p : List MemPlace), (∀ t ∈ ts, P.readableRec t = true ∧ t < P.types.size) →
    DataW.TrodAll enc P W base (fun _ => true) true ts vs ds p → (∀ x ∈ p, W.sameAt W' x) → (∀ x ∈ p, sp' x.block = true) → DataW.TrodAll enc P W' base sp' true ts vs ds p
  | [], [], [], p, hr, h, hs, hp => h
  | t :: ts, v :: vs, d :: ds, p, hr, h, hs, hp => by
    obtain ⟨p1, q1, h1, h2, rfl⟩ := h
    exact ⟨p1, q1, WideElems.Trod_stays hl (hr t (by simp)).1 (hr t (by simp)).2 h1 (fun x hx => hs x (by simp [hx])) (fun x hx => hp x (by simp [hx])),
      trodAll_stays hl ts vs ds q1 (fun u hu => hr u (by simp [hu])) h2 (fun x hx => hs x (by simp [hx])) (fun x hx => hp x (by simp [hx])), rfl⟩
  | [], _ :: _, _, p, hr, h, hs, hp => by simp [DataW.TrodAll] at h
  | [], [], _ :: _, p, hr, h, hs, hp => by simp [DataW.TrodAll] at h
  | _ :: _, [], _, p, hr, h, hs, hp => by simp [DataW.TrodAll] at h
  | _ :: _, _ :: _, [], p, hr, h, hs, hp => by simp [DataW.TrodAll] at h

theorem wf_one {H : Type} {ds : List (DataW H)} {t : TypeId} (h : wfEach P ds [t]) : ∃ d, ds = [d] ∧ wfD P d t := by
  match ds, h with
  | [], h => simp [wfEach] at h
  | [d], h => simp only [wfEach, and_true] at h; exact ⟨d, rfl, h⟩
  | _ :: _ :: _, h => simp [wfEach] at h
theorem wf_more {H : Type} {ds : List (DataW H)} {t u : TypeId} {ts : List TypeId} (h : wfEach P ds (t :: u :: ts)) : ∃ d r, ds = d :: r ∧ wfD P d t ∧ wfEach P r (u :: ts) := by
  cases ds with
  | nil => simp [wfEach] at h
  | cons d r => simp only [wfEach] at h; exact ⟨d, r, rfl, h.1, h.2⟩
theorem wf_int {H : Type} {d : DataW H} {t : TypeId} {k : IntKind} (hu : P.underlying t = some (.int k)) (h : wfD P d t) : ∃ n, d = .lit (.int k n) ∧ k.min ≤ n ∧ n ≤ k.max := by
  cases d with
  | lit l =>
    cases l <;> simp [wfD, hu] at h
    obtain ⟨rfl, h1, h2⟩ := h
    exact ⟨_, rfl, h1, h2⟩
  | _ => simp [wfD, hu] at h
theorem wf_bool {H : Type} {d : DataW H} {t : TypeId} (hu : P.underlying t = some .bool) (h : wfD P d t) : ∃ b, d = .lit (.bool b) := by
  cases d with
  | lit l =>
    cases l <;> simp [wfD, hu] at h
    exact ⟨_, rfl⟩
  | _ => simp [wfD, hu] at h
theorem wf_string {H : Type} {d : DataW H} {t : TypeId} (hu : P.underlying t = some .string) (h : wfD P d t) : ∃ s, d = .lit (.string s) ∧ s.length ≤ 9223372036854775807 := by
  cases d with
  | lit l =>
    cases l <;> simp [wfD, hu] at h
    exact ⟨_, rfl, h⟩
  | _ => simp [wfD, hu] at h
theorem wf_slice {H : Type} {d : DataW H} {t e : TypeId} (hu : P.underlying t = some (.slice e)) (h : wfD P d t) : d = .nil ∨ ∃ es sp, d = .slice es sp ∧ es.length + sp.length ≤ 9223372036854775807 ∧ wfAll P es e ∧ wfAll P sp e := by
  cases d with
  | lit l => cases l <;> simp [wfD, hu] at h
  | nil => exact .inl rfl
  | slice es sp =>
    simp only [wfD, hu] at h
    exact .inr ⟨es, sp, rfl, h⟩
  | _ => simp [wfD, hu] at h

/-- What a law comes to, for its row. -/
theorem law_contract {X : FuncId → Option XDecl} (hmix : P.follows .mixedOrders = true) (hX : ∀ f d, X f = some d → FnIs P f d) {f : FuncId} {F : XFunc} (hf : X f = some (.code F)) {fn : Func} {k : Nat} {tb : TypeId} {s : ChangeSpec}
    (hk : ∀ t ∈ fn.params.toList, okT P k t = true) (hr : ∀ t ∈ fn.params.toList, P.readableRec t = true ∧ t < P.types.size) (hl : laidOutB P = true) (hres : fn.resultTypes = #[tb]) (htb : P.underlying tb = some .bool)
    (hvars : s.vars = []) (hspec : ∀ (H : Type) (ds : List (DataW H)), wfEach P ds fn.params.toList → s.fn H ds = { results := [.lit (.bool true)], args := ds })
    (h : ∀ (H : Type) (ds : List (DataW H)), wfEach P ds fn.params.toList → ∃ n m', xcall P X n f (absArgs P ds fn.params.toList Mem.empty).1 (absArgs P ds fn.params.toList Mem.empty).2 = some (.bool true, m'))
    (H : Type) (enc : TypeId × Value → H) (W : World) (base' : Nat) (args : Array Value) (ds gs : List (DataW H)) (before : List MemPlace)
    (hval : ∀ (j : Nat) t v, fn.params[j]? = some t → args[j]? = some v → Value.okWide P W .any base' t v)
    (hW : DataW.Whole enc P fn.params.toList s.vars false W args.toList ds gs before) :
    Calls P f args W fun e W' => ∃ v, e = .returned v ∧ s.post enc P fn false true false false W args v W' := by
  have hW' := hW
  obtain ⟨p, q, hA, hV, rfl, hfz, _⟩ := hW
  rw [hvars] at hV
  have hgs : gs = [] ∧ q = [] := by
    cases gs with
    | nil => exact ⟨rfl, by simpa [DataW.TrodVars] using hV⟩
    | cons _ _ => simp [DataW.TrodVars] at hV
  obtain ⟨rfl, rfl⟩ := hgs
  have hR0 : Rel (fun _ => none) Mem.empty W := ⟨fun i o c h => by simp [Mem.get, Mem.empty, Tr.get] at h, fun i j oi oj ci cj _ h => by simp [Mem.get, Mem.empty, Tr.get] at h, fun _ _ => rfl, fun i o h => by simp [Mem.get, Mem.empty, Tr.get] at h⟩
  have hro0 : RO Mem.empty := fun i o h => by simp [Mem.get, Mem.empty, Tr.get] at h
  obtain ⟨ρ, i1, r1, w1⟩ := args_ok (k := k) (base' := base') fn.params.toList args.toList ds p (fun _ => none) Mem.empty hA hk (fun j t v ht hv => hval j t v (by simpa using ht) (by simpa using hv)) hR0 hro0
  obtain ⟨n, m', hx⟩ := h H ds w1
  refine (xcall_sound hmix hX hf hx i1.rel r1).mono ?_
  rintro e W' ⟨ρ', v', rfl, hv, hS⟩
  have hv' := hv.eq rfl
  subst hv'
  have hb : RowKit.Below W.heap.size W W' := ⟨hS.fr.os, hS.fr.tape, hS.fr.output, hS.fr.size, fun b hb => hS.fr.keep b hb (fun i o c h1 h2 _ => by rw [i1.ro i o h1] at h2; cases h2)⟩
  have hlt : ∀ x ∈ p, x.block < W.heap.size := fun x hx => hW'.lt x (by simpa using hx)
  have hsp := hspec H (ds ++ []) (by simpa using w1)
  refine ⟨_, rfl, ?_⟩
  refine ChangeShapes.post_of_same (pa := p) (pv := []) hW' (fun b sp hd => ?_) (fun sp hsp' => ?_) (fun sp _ => ?_) (by simp) (hb.frame _) hS.fr.frozen (RowKit.ok_one hres rfl (RowKit.okWide_bool_mk htb _))
  · rw [hsp, hres]
    exact ChangeShapes.trodAll_mk1 (RowKit.shut_bool htb true)
  · rw [hsp]
    simp only [List.append_nil] at hsp' ⊢
    exact trodAll_stays hl _ _ _ _ hr hA (fun x hx => hb.same (hlt x hx)) (fun x hx => hsp' x hx)
  · rw [hsp, hvars]; rfl

end
end Go.Proofs.YtnlmnejellipdaaGreat.X
