/-
  Own work. 'op_sound': whatever an operation of the abstract run answers, the model's answers.
-/
import Derived.Test.YtnlmnejellipdaaGreatXMap
namespace Go.Proofs.YtnlmnejellipdaaGreat.X
open Go
set_option linter.unusedVariables false
set_option linter.unusedSimpArgs false

section
variable {P : Program} {ρ : Rho} {N : Nat} {e : Env} {a : Act} {m : Mem} {w : World} {r : XR}

theorem bin_sound {op : BinOp} {t yt : TypeId} {x y : Operand} {gx gy : Arg} {o : Oper} (ho : o.op = .binOp op t x y yt) (hgx : argOf N x = some gx) (hgy : argOf N y = some gy)
    (hx : xi P e m (.bin op t gx gy) = some r) (hE : ERel P ρ N e a) (hR : Rel ρ m w) : Good P ρ m w ((execOp a.eval o).run P w) r := by
  simp only [xi] at hx
  obtain ⟨vx, h1, hx⟩ := bind_some' hx
  obtain ⟨vy, h2, hx⟩ := bind_some' hx
  obtain ⟨hp, hx⟩ := ite_some' hx
  obtain ⟨v, h3, hx⟩ := bind_some' hx
  obtain ⟨hpv, hx⟩ := ite_some' hx
  cases hx
  simp only [Bool.and_eq_true] at hp
  have e1 := (arg_rel hgx h1 hE).eq hp.1
  have e2 := (arg_rel hgy h2 hE).eq hp.2
  refine good_plain (s := do eqGuard op t x y (a.eval x) (a.eval y); binOp op t (a.eval x) (a.eval y)) (by simp only [execOp, ho]) hR ?_ h3 hpv
  rw [e1, e2, eqGuard_plain op t x y (.const vx) (.const vy) vx vy hp.1 hp.2]

theorem isNilOp_sound {neg : Bool} {k : NK} {t yt : TypeId} {x y : Operand} {gx : Arg} {o : Oper} (ho : o.op = .binOp (if neg then .neq else .eql) t x y yt) (hk : nilKind P t y = some k) (hgx : argOf N x = some gx)
    (hx : xi P e m (.isNil k neg gx) = some r) (hE : ERel P ρ N e a) (hR : Rel ρ m w) : Good P ρ m w ((execOp a.eval o).run P w) r := by
  simp only [xi] at hx
  obtain ⟨v, h1, hx⟩ := bind_some' hx
  have hres : ∃ res, nilRes k neg v = some res ∧ r = .val res m ∧ plain res = true := by
    unfold nilRes
    split at hx <;> cases hx <;> exact ⟨_, rfl, rfl, rfl⟩
  obtain ⟨res, hres, rfl, hpl⟩ := hres
  refine good_same (s := do eqGuard (if neg then .neq else .eql) t x y (a.eval x) (a.eval y); binOp (if neg then .neq else .eql) t (a.eval x) (a.eval y)) (by simp only [execOp, ho]) hR ⟨res, ?_, .refl hpl⟩
  exact isNil_sound hk (arg_rel hgx h1 hE) hres x w

theorem byteL_cons {v : Value} {l : List Value} {bs : List UInt8} (h : byteL (v :: l) = some bs) : ∃ n bs', v = .int .u8 n ∧ byteL l = some bs' ∧ bs = UInt8.ofNat n.toNat :: bs' := by
  unfold byteL at h
  split at h
  · rename_i h0; cases h0
  · rename_i n r h0
    cases h0
    obtain ⟨bs', h1, h2⟩ := map_some' h
    exact ⟨n, bs', rfl, h1, h2.symm⟩
  · cases h

theorem byteL_rel : ∀ {cs cs' : List Value} {bs : List UInt8}, CsRel ρ cs cs' → byteL cs = some bs → cs' = cs
  | [], _, _, .nil, _ => rfl
  | v :: l, _, bs, .cons h t, hb => by
    obtain ⟨n, bs', rfl, h1, rfl⟩ := byteL_cons hb
    rw [byteL_rel t h1]
    cases h
    rfl

theorem bytes_run (P : Program) (f : Value → ByteArray → Sem (ForInStep ByteArray)) (hf : ∀ n s, f (.int .u8 n) s = pure (ForInStep.yield (s.push (UInt8.ofNat n.toNat)))) : ∀ (l : List Value) (bs : List UInt8) (s : ByteArray) (w : World), byteL l = some bs →
    (forIn l s f).run P w = .ok ⟨s.data ++ bs.toArray⟩ w
  | [], bs, s, w, h => by
    simp only [byteL, Option.some.injEq] at h
    subst h
    simp
  | v :: l, bs, s, w, h => by
    obtain ⟨n, bs', rfl, h1, rfl⟩ := byteL_cons h
    simp only [List.forIn_cons, hf, pure_bind]
    rw [bytes_run P f hf l bs' _ w h1]
    simp [ByteArray.push]

theorem bstr_sound {o : Oper} {src dst : TypeId} {x : Operand} {g : Arg} {r : XR} (ho : o.op = .convert src dst x) (hg : argOf N x = some g) (hbs : bytesToStr P src dst = true)
    (hx : xi P e m (bif true then .bstr g else .conv src dst g) = some r) (hE : ERel P ρ N e a) (hR : Rel ρ m w) : Good P ρ m w ((execOp a.eval o).run P w) r := by
  simp only [cond_true, xi] at hx
  obtain ⟨v, hv, hx⟩ := bind_some' hx
  obtain ⟨n, h3, hx⟩ := bind_some' hx
  obtain ⟨cs, h4, hx⟩ := bind_some' hx
  obtain ⟨bs, h5, hx⟩ := bind_some' hx
  have hv' := arg_rel hg hv hE
  obtain ⟨p, len, cap, rfl⟩ : ∃ p len cap, v = .slice p len cap := by
    cases v <;> first | exact ⟨_, _, _, rfl⟩ | cases hx
  cases hx
  obtain ⟨cs', g1, g2, g3, g4, g5⟩ := xfirst_run (P := P) hR hv' h3 (Nat.le_refl _) h4
  have hcs := byteL_rel g1 h5
  subst hcs
  have hn : n = len := by simpa [xlen, eq_comm] using h3
  subst hn
  have hd' : ∃ q cap', a.eval x = .slice q n cap' := by
    generalize a.eval x = vd' at hv'
    cases hv' with
    | cell h => cases h with
      | plain h => exact ⟨_, _, rfl⟩
      | slice _ _ _ => exact ⟨_, _, rfl⟩
      | slack _ _ _ _ _ => exact ⟨_, _, rfl⟩
      | zero _ => exact ⟨_, _, rfl⟩
  obtain ⟨q, cap', hq⟩ := hd'
  obtain ⟨el, hus, hud, hue⟩ : ∃ el, P.underlying src = some (.slice el) ∧ P.underlying dst = some .string ∧ P.underlying el = some (.int .u8) := by
    unfold bytesToStr at hbs
    split at hbs
    · rename_i el h1 h2
      split at hbs
      · rename_i h3; exact ⟨el, h1, h2, h3⟩
      · cases hbs
    · cases hbs
  refine good_same (s := convert src dst (a.eval x)) (by simp only [execOp, ho]) hR ⟨.string ⟨bs.toArray⟩, ?_, .refl rfl⟩
  rw [hq] at g3 ⊢
  have hconv : (convert src dst (.slice q n cap')).run P w = (Conv.bytesToString (.slice q n cap')).run P w := by
    simp only [convert, Sem.run_bind, run_underlying hus, run_underlying hud, Result.andThen_ok, run_underlying hue]
  rw [hconv]
  cases q with
  | none =>
    simp only [Builtin.firstCells, Sem.run_pure, Result.ok.injEq, and_true] at g3
    have : cs' = [] := by simpa using g3.symm
    subst this
    cases h5
    simp [Conv.bytesToString]; rfl
  | some b =>
    simp only [Builtin.firstCells, Nat.mul_one] at g3
    simp only [Conv.bytesToString, Sem.run_bind, g3, Result.andThen_ok, List.forIn_toArray]
    have key := fun f hf => bytes_run P f hf cs' bs .empty w h5
    rw [key _ (by intro n s; rfl)]
    simp

theorem append_sound {o : Oper} {c : Call} {t u el : TypeId} {s x : Operand} {gs gx : Arg} {size bytes : Nat} {zero : List Value} {d : TypeDesc} (ho : o.op = .call c) (hcb : c.callee = .builtin .append) (hargs : c.args.toList = [s, x])
    (hts : c.argTypes.toList = [t, u]) (hgs : argOf N s = some gs) (hgx : argOf N x = some gx) (hel : elemP P t = some el) (hs : sizeP P el = some size) (hb : bytesP P el = some bytes) (hz : zeroP P el = some zero)
    (hu : P.underlying u = some d) (hd : (∃ e', d = .slice e') ∨ d = .string)
    (hx : xi P e m (.append size bytes zero gs gx) = some r) (hE : ERel P ρ N e a) (hR : Rel ρ m w) : Good P ρ m w ((execOp a.eval o).run P w) r := by
  simp only [xi] at hx
  obtain ⟨vs, h1, hx⟩ := bind_some' hx
  obtain ⟨vx, h2, hx⟩ := bind_some' hx
  obtain ⟨n, h3, hx⟩ := bind_some' hx
  obtain ⟨new, h4, hx⟩ := bind_some' hx
  obtain ⟨hzl, hx⟩ := ite_some' hx
  obtain ⟨⟨v, m'⟩, h5, hx⟩ := bind_some' hx
  cases hx
  obtain ⟨i, z, hi, hzi, rfl, hpz, hsz⟩ := zeroP_spec hz
  obtain ⟨i2, hi2, rfl⟩ := sizeP_spec hs
  rw [hi] at hi2; cases hi2
  obtain ⟨i3, hi3, rfl⟩ := bytesP_spec hb
  rw [hi] at hi3; cases hi3
  obtain ⟨new', g1, g2, g3, g4, g5⟩ := xfirst_run (P := P) hR (arg_rel hgx h2 hE) h3 (Nat.le_refl _) h4
  have hS : Src P i.size u (a.eval x) n new' w := ⟨by rcases hd with ⟨e', rfl⟩ | rfl; exact .inl ⟨e', hu⟩; exact .inr hu, g5, g3, g4, g2, g1.ones⟩
  have hct : c.argTypes = #[t, u] := by rw [← Array.toArray_toList (xs := c.argTypes), hts]
  exact good_of (s := Builtin.append_ #[t, u] o.type #[a.eval s, a.eval x]) (by rw [exec_builtin ho hcb, args_two hargs, hct]; rfl) (xappend_run rfl rfl hsz (Apd.ofSrc (elemP_spec hel) hi hzi hS) g1 hR (arg_rel hgs h1 hE) h5)

theorem copy_sound {o : Oper} {c : Call} {t el : TypeId} {ts : List TypeId} {d s : Operand} {gd gs : Arg} {size : Nat} (ho : o.op = .call c) (hcb : c.callee = .builtin .copy) (hargs : c.args.toList = [d, s])
    (hts : c.argTypes.toList = t :: ts) (hgd : argOf N d = some gd) (hgs : argOf N s = some gs) (hel : elemP P t = some el) (hs : sizeP P el = some size)
    (hx : xi P e m (.copy size gd gs) = some r) (hE : ERel P ρ N e a) (hR : Rel ρ m w) : Good P ρ m w ((execOp a.eval o).run P w) r := by
  simp only [xi] at hx
  obtain ⟨vd, h1, hx⟩ := bind_some' hx
  obtain ⟨vs, h2, hx⟩ := bind_some' hx
  have hct : c.argTypes[0]? = some t := by rw [← Array.toArray_toList (xs := c.argTypes), hts]; simp
  have hvd := arg_rel hgd h1 hE
  have hvs := arg_rel hgs h2 hE
  have hexec : execOp a.eval o = (do pure (Next.value (← Builtin.copy_ c.argTypes o.type #[a.eval d, a.eval s]))) := by rw [exec_builtin ho hcb, args_two hargs]; rfl
  obtain ⟨p, dl, dc, rfl⟩ : ∃ p dl dc, vd = .slice p dl dc := by
    cases vd <;> first | exact ⟨_, _, _, rfl⟩ | cases hx
  simp only at hx
  obtain ⟨sl, h3, hx⟩ := bind_some' hx
  obtain ⟨cs, h4, hx⟩ := bind_some' hx
  obtain ⟨cs', g1, g2, g3, g4, g5⟩ := xfirst_run (P := P) hR hvs h3 (Nat.min_le_left sl dl) h4
  have hd' : ∃ q dc', a.eval d = .slice q dl dc' := by
    generalize a.eval d = vd' at hvd
    cases hvd with
    | cell h => cases h with
      | plain h => exact ⟨_, _, rfl⟩
      | slice _ _ _ => exact ⟨_, _, rfl⟩
      | slack _ _ _ _ _ => exact ⟨_, _, rfl⟩
      | zero _ => exact ⟨_, _, rfl⟩
  obtain ⟨q, dc', hq⟩ := hd'
  have hrun0 : ∀ (u : Unit) (w' : World), (match q with | some b => storeCells b cs'.toArray.toList | none => pure ()).run P w = .ok u w' → (Builtin.copy_ c.argTypes o.type #[a.eval d, a.eval s]).run P w = .ok (goInt (Nat.min sl dl)) w' := by
    intro u w' hst
    simp only [Builtin.copy_, hct, Sem.run_bind, run_underlying (elemP_spec hel), Result.andThen_ok, hq, g5, run_sizeOf' hs, g3, List.getElem?_toArray, List.getElem?_cons_zero, List.getElem?_cons_succ]
    cases q with
    | none => simp at hst; obtain ⟨_, rfl⟩ := hst; simp [hct, run_underlying (elemP_spec hel), hq, g5, run_sizeOf' hs, g3]
    | some b => simp only at hst; simp [hct, run_underlying (elemP_spec hel), hq, g5, run_sizeOf' hs, g3, hst]
  cases p with
  | none =>
    cases hx
    rw [hq] at hvd
    have : q = none := by
      cases hvd with
      | cell h => cases h with | plain h => rfl
    subst this
    exact good_same hexec hR ⟨_, hrun0 () w rfl, .refl rfl⟩
  | some b =>
    simp only at hx
    split at hx
    · rename_i h0
      cases hx
      have hnil : cs' = [] := List.eq_nil_of_length_eq_zero (by rw [g2]; exact h0)
      subst hnil
      exact good_same hexec hR ⟨_, hrun0 () w (by cases q <;> simp [storeCells]), .refl rfl⟩
    · rename_i h0
      obtain ⟨m', h5, hx⟩ := bind_some' hx
      cases hx
      have hlen : 0 < dl := by
        rcases Nat.eq_zero_or_pos dl with h | h
        · subst h; simp at h0
        · exact h
      have hcase : ∃ k, ρ b.block = some k ∧ q = some ⟨k.blk, k.off + b.off, none⟩ := by
        rw [hq] at hvd
        cases hvd with
        | cell h => cases h with
          | plain h => simp [plainV] at h
          | slice _ hc _ => exact ⟨_, hc, rfl⟩
          | slack _ hc hl hcap _ hxx =>
            obtain ⟨rfl, _⟩ := hxx.resolve_left (by omega)
            exact ⟨_, hc, rfl⟩
          | zero _ => omega
      obtain ⟨k, hk, rfl⟩ := hcase
      obtain ⟨hst, hstep⟩ := xstore_run (P := P) hR h5 (c := k) hk g1
      exact good_of hexec ⟨ρ, _, _, hrun0 () _ (by simpa using hst), .refl rfl, hstep⟩

theorem appendZeros_sound {o : Oper} {c : Call} {t u el : TypeId} {s x : Operand} {gs gx : Arg} {size bytes : Nat} {zero : List Value} {kx : IntKind} (ho : o.op = .call c) (hcb : c.callee = .builtin .append) (hargs : c.args.toList = [s, x])
    (hts : c.argTypes.toList = [t, u]) (hgs : argOf N s = some gs) (hgx : argOf N x = some gx) (hel : elemP P t = some el) (hs : sizeP P el = some size) (hb : bytesP P el = some bytes) (hz : zeroP P el = some zero)
    (hu : P.underlying u = some (.int kx))
    (hx : xi P e m (.appendZeros size bytes zero gs gx) = some r) (hE : ERel P ρ N e a) (hR : Rel ρ m w) : Good P ρ m w ((execOp a.eval o).run P w) r := by
  simp only [xi] at hx
  obtain ⟨vs, h1, hx⟩ := bind_some' hx
  obtain ⟨vx, h2, hx⟩ := bind_some' hx
  obtain ⟨n, h3, hx⟩ := bind_some' hx
  obtain ⟨⟨hzl, hn, hnb, hb0⟩, hx⟩ := ite_some' hx
  obtain ⟨⟨v, m'⟩, h5, hx⟩ := bind_some' hx
  cases hx
  obtain ⟨i, z, hi, hzi, rfl, hpz, hsz⟩ := zeroP_spec hz
  obtain ⟨i2, hi2, rfl⟩ := sizeP_spec hs
  rw [hi] at hi2; cases hi2
  obtain ⟨i3, hi3, rfl⟩ := bytesP_spec hb
  rw [hi] at hi3; cases hi3
  have hct : c.argTypes = #[t, u] := by rw [← Array.toArray_toList (xs := c.argTypes), hts]
  obtain ⟨k, e1, _⟩ := asNat_rel h3 (arg_rel hgx h2 hE)
  refine good_of (s := Builtin.append_ #[t, u] o.type #[a.eval s, a.eval x]) (by rw [exec_builtin ho hcb, args_two hargs, hct]; rfl) ?_
  rw [e1]
  exact xappend_run rfl rfl hsz (Apd.ofZeros (elemP_spec hel) hi hzi hsz hu hpz hn hnb hb0) (.flat (zerosOf_plain hpz n)) hR (arg_rel hgs h1 hE) h5

theorem clear_sound {o : Oper} {c : Call} {t el : TypeId} {ts : List TypeId} {x : Operand} {gx : Arg} {zero : List Value} (ho : o.op = .call c) (hcb : c.callee = .builtin .clear) (hargs : c.args.toList = [x])
    (hts : c.argTypes.toList = t :: ts) (hgx : argOf N x = some gx) (hel : elemP P t = some el) (hz : zeroP P el = some zero)
    (hx : xi P e m (.clear zero gx) = some r) (hE : ERel P ρ N e a) (hR : Rel ρ m w) : Good P ρ m w ((execOp a.eval o).run P w) r := by
  simp only [xi] at hx
  obtain ⟨v, h1, hx⟩ := bind_some' hx
  have hv := arg_rel hgx h1 hE
  have hct : c.argTypes[0]? = some t := by rw [← Array.toArray_toList (xs := c.argTypes), hts]; simp
  have hexec : execOp a.eval o = (do pure (Next.value (← Builtin.clear_ c.argTypes o.type #[a.eval x]))) := by rw [exec_builtin ho hcb, args_one hargs]; rfl
  have hu := elemP_spec hel
  obtain ⟨i, z, hi, hzi, rfl, hpz, hsz⟩ := zeroP_spec hz
  obtain ⟨p, l, k, rfl⟩ : ∃ p l k, v = .slice p l k := by
    cases v <;> first | exact ⟨_, _, _, rfl⟩ | cases hx
  cases p with
  | none =>
    simp only at hx
    cases hx
    have : a.eval x = .slice none l k := by
      generalize a.eval x = y at hv
      cases hv with
      | cell h => cases h with | plain h => rfl
    refine good_same hexec hR ⟨.tuple #[], ?_, .refl rfl⟩
    rw [this]
    simp [Builtin.clear_, hct, run_underlying hu]
  | some b =>
    simp only at hx
    split at hx
    · rename_i h0
      subst h0
      cases hx
      have : ∃ q k', a.eval x = .slice q 0 k' := by
        generalize a.eval x = y at hv
        cases hv with
        | cell h => cases h with
          | plain h => exact ⟨_, _, rfl⟩
          | slice _ _ _ => exact ⟨_, _, rfl⟩
          | slack _ _ _ _ _ => exact ⟨_, _, rfl⟩
          | zero _ => exact ⟨_, _, rfl⟩
      obtain ⟨q, k', hq⟩ := this
      refine good_same hexec hR ⟨.tuple #[], ?_, .refl rfl⟩
      rw [hq]
      cases q <;> simp [Builtin.clear_, hct, run_underlying hu]
    · rename_i h0
      split at hx
      · cases hx
      obtain ⟨m', h5, hx⟩ := bind_some' hx
      cases hx
      have hcase : ∃ co k', ρ b.block = some co ∧ a.eval x = .slice (some ⟨co.blk, co.off + b.off, none⟩) l k' := by
        generalize a.eval x = y at hv
        cases hv with
        | cell h => cases h with
          | plain h => simp [plainV] at h
          | slice _ hc _ => exact ⟨_, _, hc, rfl⟩
          | slack _ hc hl hcap _ hxx =>
            obtain ⟨rfl, _⟩ := hxx.resolve_left (by omega)
            exact ⟨_, _, hc, rfl⟩
          | zero _ => omega
      obtain ⟨co, k', hk, hq⟩ := hcase
      obtain ⟨hst, hstep⟩ := xstore_run (P := P) hR h5 (c := co) hk (.flat (zerosOf_plain hpz l))
      refine good_of hexec ⟨ρ, .tuple #[], _, ?_, .refl rfl, hstep⟩
      rw [hq]
      obtain ⟨l', rfl⟩ : ∃ l', l = l' + 1 := ⟨l - 1, by omega⟩
      simp only [Builtin.clear_, hct, List.getElem?_toArray, List.getElem?_cons_zero, Sem.run_bind, run_underlying hu, Result.andThen_ok]
      simp [zeroValue, typeInfo, hi, hzi, zeroCells_eq, hst]

theorem call_sound {o : Oper} {c : Call} {f : Operand} {gf : Arg} {gs : List Arg} (ho : o.op = .call c) (hcb : c.callee = .value f) (hgf : argOf N f = some gf) (hgs : argsOf N c.args.toList = some gs)
    (hx : xi P e m (.call gf gs) = some r) (hE : ERel P ρ N e a) (hR : Rel ρ m w) : Good P ρ m w ((execOp a.eval o).run P w) r := by
  simp only [xi] at hx
  obtain ⟨vf, h1, hx⟩ := bind_some' hx
  obtain ⟨vs, h2, hx⟩ := bind_some' hx
  have hv := arg_rel hgf h1 hE
  have hvs := args_rel hgs h2 hE
  obtain ⟨g, first, captured, rfl⟩ : ∃ g first captured, vf = .func (.func g) first captured := by
    cases vf with
    | func fn f c => cases fn with
      | func g => exact ⟨_, _, _, rfl⟩
      | _ => simp at hx
    | _ => simp at hx
  simp only at hx
  cases hx
  have : ∃ first' captured', a.eval f = .func (.func g) first' captured' ∧ FsRel ρ first.toList first'.toList ∧ FsRel ρ captured.toList captured'.toList := by
    generalize a.eval f = y at hv
    cases hv with
    | cell h => cases h with
      | plain h => simp [plainV] at h
      | func hf hc => exact ⟨_, _, rfl, hf, hc⟩
  obtain ⟨first', captured', hq, hf, hc⟩ := this
  refine ⟨first' ++ c.args.map a.eval ++ captured', ?_, ?_⟩
  · simp only [execOp, ho, resolve, hcb, hq, Deferred.ofValue, pure_bind, invoke]
  · simp only [Array.toList_append, Array.toList_map]
    exact (hf.toVs.append hvs).append hc.toVs

theorem len_sound {o : Oper} {c : Call} {t el : TypeId} {ts : List TypeId} {x : Operand} {gx : Arg} (ho : o.op = .call c) (hcb : c.callee = .builtin .len) (hargs : c.args.toList = [x])
    (hts : c.argTypes.toList = t :: ts) (hgx : argOf N x = some gx) (hu : P.underlying t = some (.slice el))
    (hx : xi P e m (.len gx) = some r) (hE : ERel P ρ N e a) (hR : Rel ρ m w) : Good P ρ m w ((execOp a.eval o).run P w) r := by
  simp only [xi] at hx
  obtain ⟨v, h1, hx⟩ := bind_some' hx
  have hv := arg_rel hgx h1 hE
  have hct : c.argTypes[0]? = some t := by rw [← Array.toArray_toList (xs := c.argTypes), hts]; simp
  have hexec : execOp a.eval o = (do pure (Next.value (← Builtin.len_ c.argTypes o.type #[a.eval x]))) := by rw [exec_builtin ho hcb, args_one hargs]; rfl
  obtain ⟨p, l, k, rfl⟩ : ∃ p l k, v = .slice p l k := by
    cases v <;> first | exact ⟨_, _, _, rfl⟩ | cases hx
  simp only at hx
  cases hx
  have : ∃ q k', a.eval x = .slice q l k' := by
    generalize a.eval x = y at hv
    cases hv with
    | cell h => cases h with
      | plain h => exact ⟨_, _, rfl⟩
      | slice _ _ _ => exact ⟨_, _, rfl⟩
      | slack _ _ _ _ _ => exact ⟨_, _, rfl⟩
      | zero _ => exact ⟨_, _, rfl⟩
  obtain ⟨q, k', hq⟩ := this
  refine good_same hexec hR ⟨goInt l, ?_, .refl rfl⟩
  rw [hq]
  simp [Builtin.len_, hct, run_underlying hu]

theorem cap_sound {o : Oper} {c : Call} {t el : TypeId} {ts : List TypeId} {x : Operand} {gx : Arg} (ho : o.op = .call c) (hcb : c.callee = .builtin .cap) (hargs : c.args.toList = [x])
    (hts : c.argTypes.toList = t :: ts) (hgx : argOf N x = some gx) (hu : P.underlying t = some (.slice el))
    (hx : xi P e m (.cap gx) = some r) (hE : ERel P ρ N e a) (hR : Rel ρ m w) : Good P ρ m w ((execOp a.eval o).run P w) r := by
  simp only [xi] at hx
  obtain ⟨v, h1, hx⟩ := bind_some' hx
  have hv := arg_rel hgx h1 hE
  have hct : c.argTypes[0]? = some t := by rw [← Array.toArray_toList (xs := c.argTypes), hts]; simp
  have hexec : execOp a.eval o = (do pure (Next.value (← Builtin.cap_ c.argTypes o.type #[a.eval x]))) := by rw [exec_builtin ho hcb, args_one hargs]; rfl
  obtain ⟨p, l, k, rfl⟩ : ∃ p l k, v = .slice p l k := by
    cases v <;> first | exact ⟨_, _, _, rfl⟩ | cases hx
  have : r = .val (goInt k) m ∧ ∃ q, a.eval x = .slice q l k := by
    generalize a.eval x = y at hv
    cases hv with
    | cell h => cases h with
      | plain h =>
        cases p with
        | none => simp only at hx; cases hx; exact ⟨rfl, _, rfl⟩
        | some _ => simp [plainV] at h
      | slice hs _ _ => simp only [hs] at hx; cases hx; exact ⟨rfl, _, rfl⟩
      | slack hs _ _ _ _ => simp only [hs] at hx; cases hx
      | zero hs => simp only [hs] at hx; cases hx; exact ⟨rfl, _, rfl⟩
  obtain ⟨rfl, q, hq⟩ := this
  refine good_same hexec hR ⟨goInt k, ?_, .refl rfl⟩
  rw [hq]
  simp [Builtin.cap_, hct, run_underlying hu]

theorem calcB_sound {o : Oper} {c : Call} {b : Builtin} {gs : List Arg} (ho : o.op = .call c) (hcb : c.callee = .builtin b) (hb : b = .max ∨ b = .min ∨ b = .len) (hgs : argsOf N c.args.toList = some gs)
    (hx : xi P e m (.calcB b c.argTypes.toList o.type gs) = some r) (hE : ERel P ρ N e a) (hR : Rel ρ m w) : Good P ρ m w ((execOp a.eval o).run P w) r := by
  simp only [xi] at hx
  obtain ⟨vs, h1, hx⟩ := bind_some' hx
  obtain ⟨hp, hx⟩ := ite_some' hx
  obtain ⟨nx, h2, hx⟩ := bind_some' hx
  have hvs := (args_rel hgs h1 hE).eq hp
  have hmap : c.args.map a.eval = vs.toArray := by
    apply Array.ext'
    rw [Array.toList_map, hvs]
  have hexec : execOp a.eval o = builtin b c.argTypes o.type (gs.map fun _ => false).toArray vs.toArray := by
    rw [exec_builtin ho hcb, hmap]
    rcases hb with rfl | rfl | rfl <;> rfl
  simp only [Array.toArray_toList] at h2
  have hrun := ans_run h2 w
  cases nx <;> simp only [reduceCtorEq] at hx
  obtain ⟨hpv, hx⟩ := ite_some' hx
  cases hx
  exact ⟨ρ, _, w, by rw [hexec]; exact hrun, .refl hpv, .refl hR⟩

theorem callP_sound {o : Oper} {c : Call} {i : XI} (ho : o.op = .call c) (hc : callP P N o.type c = some i)
    (hx : xi P e m i = some r) (hE : ERel P ρ N e a) (hR : Rel ρ m w) : Good P ρ m w ((execOp a.eval o).run P w) r := by
  unfold callP at hc
  split at hc
  · rename_i f hcb
    obtain ⟨gf, h1, hc⟩ := bind_some' hc
    obtain ⟨gs, h2, hc⟩ := bind_some' hc
    cases hc
    exact call_sound ho hcb h1 h2 hx hE hR
  · rename_i x name hcb
    obtain ⟨gx, h1, hc⟩ := bind_some' hc
    obtain ⟨gs, h2, rfl⟩ := map_some' hc
    exact invoke_sound ho hcb h1 h2 hx hE hR
  · rename_i b hcb
    obtain ⟨gs, hgs, hc'⟩ := bind_some' hc
    clear hc
    have two : ∀ {s x}, gs = [s, x] → ∃ s' x', c.args.toList = [s', x'] ∧ argOf N s' = some s ∧ argOf N x' = some x := by
      intro s x he
      subst he
      cases hl : c.args.toList with
      | nil => rw [hl] at hgs; simp [argsOf] at hgs
      | cons s' l =>
        rw [hl] at hgs
        simp only [argsOf] at hgs
        obtain ⟨g1, k1, hgs⟩ := bind_some' hgs
        obtain ⟨g2, k2, hgs⟩ := bind_some' hgs
        cases l with
        | nil => simp [argsOf] at k2; subst k2; simp at hgs
        | cons x' l =>
          simp only [argsOf] at k2
          obtain ⟨g3, k3, k2⟩ := bind_some' k2
          obtain ⟨g4, k4, k2⟩ := bind_some' k2
          cases k2
          simp only [Option.some.injEq, List.cons.injEq] at hgs
          obtain ⟨rfl, rfl, rfl⟩ := hgs
          cases l with
          | nil => exact ⟨s', x', rfl, k1, k3⟩
          | cons y l =>
            simp only [argsOf] at k4
            obtain ⟨g5, k5, k4⟩ := bind_some' k4
            obtain ⟨g6, k6, k4⟩ := bind_some' k4
            cases k4
    have one : ∀ {x}, gs = [x] → ∃ x', c.args.toList = [x'] ∧ argOf N x' = some x := by
      intro x he
      subst he
      cases hl : c.args.toList with
      | nil => rw [hl] at hgs; simp [argsOf] at hgs
      | cons s' l =>
        rw [hl] at hgs
        simp only [argsOf] at hgs
        obtain ⟨g1, k1, hgs⟩ := bind_some' hgs
        obtain ⟨g2, k2, hgs⟩ := bind_some' hgs
        simp only [Option.some.injEq, List.cons.injEq] at hgs
        obtain ⟨rfl, rfl⟩ := hgs
        cases l with
        | nil => exact ⟨s', rfl, k1⟩
        | cons y l =>
          simp only [argsOf] at k2
          obtain ⟨g5, k5, k4⟩ := bind_some' k2
          obtain ⟨g6, k6, k4⟩ := bind_some' k4
          cases k4
    split at hc'
    · rename_i hts
      have hc := hc'; clear hc'
      obtain ⟨el, h1, hc⟩ := bind_some' hc
      obtain ⟨size, h2, hc⟩ := bind_some' hc
      obtain ⟨bytes, h3, hc⟩ := bind_some' hc
      obtain ⟨zero, h4, hc⟩ := bind_some' hc
      obtain ⟨s', x', hargs, k1, k2⟩ := two rfl
      split at hc
      · rename_i hu; cases hc
        exact appendZeros_sound ho hcb hargs hts k1 k2 h1 h2 h3 h4 hu hx hE hR
      · rename_i hu; cases hc
        exact append_sound ho hcb hargs hts k1 k2 h1 h2 h3 h4 hu (.inl ⟨_, rfl⟩) hx hE hR
      · rename_i hu; cases hc
        exact append_sound ho hcb hargs hts k1 k2 h1 h2 h3 h4 hu (.inr rfl) hx hE hR
      · cases hc
    · rename_i hts
      have hc := hc'; clear hc'
      obtain ⟨el, h1, hc⟩ := bind_some' hc
      obtain ⟨size, h2, hc⟩ := bind_some' hc
      cases hc
      obtain ⟨s', x', hargs, k1, k2⟩ := two rfl
      exact copy_sound ho hcb hargs hts k1 k2 h1 h2 hx hE hR
    · rename_i hts
      have hc := hc'; clear hc'
      obtain ⟨x', hargs, k1⟩ := one rfl
      split at hc
      · rename_i hu; cases hc
        exact mapClear_sound ho hcb hargs hts k1 hu hx hE hR
      · obtain ⟨el, h1, hc⟩ := bind_some' hc
        obtain ⟨zero, h2, hc⟩ := bind_some' hc
        cases hc
        exact clear_sound ho hcb hargs hts k1 h1 h2 hx hE hR
    · rename_i hts
      have hc := hc'; clear hc'
      obtain ⟨p, hp, rfl⟩ := map_some' hc
      obtain ⟨s', x', hargs, k1, k2⟩ := two rfl
      exact mapDel_sound ho hcb hargs hts k1 k2 hp hx hE hR
    · rename_i hts
      have hc := hc'; clear hc'
      split at hc
      · rename_i hu; cases hc
        obtain ⟨x', hargs, k1⟩ := one rfl
        exact mapLen_sound ho hcb hargs hts k1 hu hx hE hR
      · rename_i hu; cases hc
        obtain ⟨x', hargs, k1⟩ := one rfl
        exact len_sound ho hcb hargs hts k1 hu hx hE hR
      · cases hc
        exact calcB_sound ho hcb (.inr (.inr rfl)) hgs hx hE hR
      · cases hc
    · rename_i hts
      have hc := hc'; clear hc'
      split at hc
      · rename_i hu; cases hc
        obtain ⟨x', hargs, k1⟩ := one rfl
        exact cap_sound ho hcb hargs hts k1 hu hx hE hR
      · cases hc
    · cases hc'
      exact calcB_sound ho hcb (.inl rfl) hgs hx hE hR
    · cases hc'
      exact calcB_sound ho hcb (.inr (.inl rfl)) hgs hx hE hR
    · cases hc'
      simp [xi] at hx
    · cases hc'

set_option maxHeartbeats 1000000 in
theorem op_sound0 {o : Oper} {i : XI} (hP : opP0 P N o = some i) (hx : xi P e m i = some r) (hE : ERel P ρ N e a) (hR : Rel ρ m w) : Good P ρ m w ((execOp a.eval o).run P w) r := by
  have hexec : ∀ {op}, o.op = op → execOp a.eval o = execOp a.eval { o with op := op } := fun h => by subst h; rfl
  unfold opP0 at hP
  split at hP
  · rename_i x ho
    obtain ⟨g, hg, rfl⟩ := map_some' hP
    simp only [xi] at hx
    obtain ⟨v, hv, hx'⟩ := bind_some' hx
    cases hx'
    exact good_val hR (arg_rel hg hv hE) (by simp only [execOp, ho]; rfl)
  · rename_i x ho
    obtain ⟨g, hg, rfl⟩ := map_some' hP
    simp only [xi] at hx
    obtain ⟨v, hv, hx'⟩ := bind_some' hx
    cases hx'
    exact good_val hR (arg_rel hg hv hE) (by simp only [execOp, ho]; rfl)
  · -- pick
    rename_i c x y ho
    obtain ⟨gc, hgc, hP⟩ := bind_some' hP
    obtain ⟨gx, hgx, hP⟩ := bind_some' hP
    obtain ⟨gy, hgy, rfl⟩ := map_some' hP
    simp only [xi] at hx
    obtain ⟨vc, h1, hx⟩ := bind_some' hx
    obtain ⟨vx, h2, hx⟩ := bind_some' hx
    obtain ⟨vy, h3, hx⟩ := bind_some' hx
    have hc := arg_rel hgc h1 hE
    cases vc with
    | bool t =>
      simp only at hx
      cases hx
      have e1 := hc.eq rfl
      refine good_val hR (v' := bif t then a.eval x else a.eval y) ?_ ?_
      · cases t
        · exact arg_rel hgy h3 hE
        · exact arg_rel hgx h2 hE
      · simp only [execOp, ho, e1, asBool]; cases t <;> rfl
    | _ => simp at hx
  · -- alloc
    rename_i t ho
    obtain ⟨z, hz, rfl⟩ := map_some' hP
    simp only [xi] at hx
    cases hx
    exact good_of (s := Instr.alloc t true (.tuple #[])) (by simp only [execOp, ho]) (alloc_sound hz hR)
  · -- box
    rename_i t x ho
    obtain ⟨g, hg, rfl⟩ := map_some' hP
    simp only [xi] at hx
    obtain ⟨v, hv, hx⟩ := bind_some' hx
    obtain ⟨hn, hx⟩ := ite_some' hx
    cases hx
    exact good_of (s := Instr.box t (a.eval x)) (by simp only [execOp, ho]) (box_sound (arg_rel hg hv hE) hn hR)
  · -- build
    rename_i t parts ho
    obtain ⟨z, hz, hP⟩ := bind_some' hP
    obtain ⟨ps, hps, hP⟩ := bind_some' hP
    split at hP
    · rename_i fs hu
      obtain ⟨pl, hpl, rfl⟩ := map_some' hP
      simp only [xi] at hx
      obtain ⟨vs, h1, hx⟩ := bind_some' hx
      obtain ⟨cs, h2, hx⟩ := bind_some' hx
      cases hx
      exact good_same (s := Instr.build t (parts.map fun (i, x) => (i, a.eval x))) (by simp only [execOp, ho]) hR (build_sound hz hps hE h1 (.inl ⟨fs, pl, hu, hpl, rfl⟩) h2)
    · rename_i n el hu
      obtain ⟨s, hs, rfl⟩ := map_some' hP
      simp only [xi] at hx
      obtain ⟨vs, h1, hx⟩ := bind_some' hx
      obtain ⟨cs, h2, hx⟩ := bind_some' hx
      cases hx
      exact good_same (s := Instr.build t (parts.map fun (i, x) => (i, a.eval x))) (by simp only [execOp, ho]) hR (build_sound hz hps hE h1 (.inr ⟨n, el, s, hu, hs, rfl⟩) h2)
    · cases hP
  · -- buildSlice
    rename_i t len parts ho
    obtain ⟨el, hel, hP⟩ := bind_some' hP
    obtain ⟨z, hz, hP⟩ := bind_some' hP
    obtain ⟨s, hs, hP⟩ := bind_some' hP
    obtain ⟨ps, hps, rfl⟩ := map_some' hP
    simp only [xi] at hx
    obtain ⟨vs, h1, hx⟩ := bind_some' hx
    obtain ⟨⟨hsm, hzl⟩, hx⟩ := ite_some' hx
    obtain ⟨cs, h2, hx⟩ := bind_some' hx
    cases hx
    refine good_of (s := Instr.buildSlice t len (parts.map fun (i, x) => (i, a.eval x))) (by simp only [execOp, ho]) ?_
    exact (buildSlice_sound hel hz hs hps hE h1 hsm hzl h2 hR)
  · -- load
    rename_i t x ho
    obtain ⟨g, hg, hP⟩ := bind_some' hP
    obtain ⟨b, hb, hP⟩ := bind_some' hP
    have hcase : ∃ size, i = .load b size g ∧ (b = true → sizeP P t = some size) ∧ (b = false → size = 1) := by
      cases b with
      | true => obtain ⟨s, hs, rfl⟩ := map_some' hP; exact ⟨s, rfl, fun _ => hs, (fun h => by cases h)⟩
      | false => cases hP; exact ⟨1, rfl, (fun h => by cases h), fun _ => rfl⟩
    obtain ⟨size, rfl, hs1, hs2⟩ := hcase
    simp only [xi] at hx
    obtain ⟨v, hv, hx⟩ := bind_some' hx
    have hv' := arg_rel hg hv hE
    obtain ⟨p, rfl⟩ : ∃ p, v = .pointer (some p) := by
      cases v with
      | pointer p => cases p with
        | some p => exact ⟨p, rfl⟩
        | none => simp at hx
      | _ => simp at hx
    simp only at hx
    obtain ⟨cs, h2, hx⟩ := bind_some' hx
    obtain ⟨c, hsp, hc, hq⟩ := ptr_rel hv'
    have hr : ∃ u, r = .val u m ∧ loadRes b cs = some u := by
      cases b with
      | true => cases hx; exact ⟨_, rfl, rfl⟩
      | false =>
        cases cs with
        | nil => simp at hx
        | cons y l => cases l with
          | nil => cases hx; exact ⟨_, rfl, rfl⟩
          | cons _ _ => simp at hx
    obtain ⟨u, rfl, hu⟩ := hr
    exact good_same (s := Instr.loadAt t (a.eval x)) (by simp only [execOp, ho]) hR (by
      obtain ⟨u', k1, k2⟩ := load_sound hb hs1 hs2 hR hc h2 hu
      exact ⟨u', by rw [hq]; simp only [Instr.loadAt, Instr.sureAddr, Sem.run_bind, Sem.run_pure, Result.andThen_ok]; exact k1, k2⟩)
  · -- store
    rename_i t x y ho
    obtain ⟨gx, hgx, hP⟩ := bind_some' hP
    obtain ⟨gy, hgy, hP⟩ := bind_some' hP
    obtain ⟨s, hs, rfl⟩ := map_some' hP
    simp only [xi] at hx
    obtain ⟨va, h1, hx⟩ := bind_some' hx
    obtain ⟨vx, h2, hx⟩ := bind_some' hx
    obtain ⟨p, rfl⟩ : ∃ p, va = .pointer (some p) := by
      cases va with
      | pointer p => cases p with
        | some p => exact ⟨p, rfl⟩
        | none => simp at hx
      | _ => simp at hx
    simp only at hx
    obtain ⟨⟨hsz, hn⟩, hx⟩ := ite_some' hx
    obtain ⟨c, hsp, hc, hq⟩ := ptr_rel (arg_rel hgx h1 hE)
    have : ∃ m', r = .skip m' ∧ (if s = 0 then m' = m else xstore m p vx.cells.toList = some m') := by
      by_cases h0 : s = 0
      · rw [if_pos h0] at hx; cases hx; exact ⟨m, rfl, by rw [if_pos h0]⟩
      · rw [if_neg h0] at hx
        obtain ⟨m', h3, hx⟩ := bind_some' hx
        cases hx
        exact ⟨m', rfl, by rw [if_neg h0]; exact h3⟩
    obtain ⟨m', rfl, hm⟩ := this
    obtain ⟨w', k1, k2⟩ := store_sound (P := P) hs hR hc (arg_rel hgy h2 hE) hn hsz hm
    refine ⟨ρ, w', ?_, k2⟩
    simp only [execOp, ho]
    refine run_u ?_
    rw [hq]
    simp only [Instr.storeAt, Instr.sureAddr, Sem.run_bind, Sem.run_pure, Result.andThen_ok]
    exact k1
  · -- nilCheck
    rename_i x ho
    obtain ⟨g, hg, rfl⟩ := map_some' hP
    simp only [xi] at hx
    obtain ⟨v, hv, hx⟩ := bind_some' hx
    have hv' := arg_rel hg hv hE
    have : r = .val v m ∧ (match a.eval x with | .pointer (some _) => True | .func (.func _) _ _ => True | .iface _ _ => True | _ => False) := by
      generalize a.eval x = y at hv'
      cases hv' with
      | cell h => cases h with
        | plain h => cases v <;> first | (simp at hx; done) | skip
                     all_goals (rename_i p; cases p <;> first | (simp at hx; done) | (simp [plainV] at h; done))
        | ptr _ _ => simp only at hx; cases hx; exact ⟨rfl, trivial⟩
        | slice _ _ _ => simp at hx
        | slack _ _ _ _ _ => simp at hx
        | zero _ => simp at hx
        | func hf hc =>
          rename_i fn f f' c c'
          cases fn with
          | func g => simp only at hx; cases hx; exact ⟨rfl, trivial⟩
          | _ => simp at hx
        | nilI => simp at hx
        | map _ => simp at hx
        | iface _ => simp only at hx; cases hx; exact ⟨rfl, trivial⟩
        | ifaceA _ => simp only at hx; cases hx; exact ⟨rfl, trivial⟩
      | agg _ => simp at hx
      | tuple _ => simp at hx
    obtain ⟨rfl, hm⟩ := this
    refine good_val hR hv' ?_
    simp only [execOp, ho]
    split at hm
    · rename_i hy; rw [hy]; rfl
    · rename_i hy; rw [hy]; rfl
    · rename_i hy; rw [hy]; rfl
    · cases hm
  · -- binOp
    rename_i op t x y yt ho
    split at hP
    · split at hP
      · rename_i k hk
        obtain ⟨g, hg, rfl⟩ := map_some' hP
        exact isNilOp_sound (neg := false) (by simpa using ho) hk hg hx hE hR
      · obtain ⟨gx, hgx, hP⟩ := bind_some' hP
        obtain ⟨gy, hgy, rfl⟩ := map_some' hP
        exact bin_sound ho hgx hgy hx hE hR
    · split at hP
      · rename_i k hk
        obtain ⟨g, hg, rfl⟩ := map_some' hP
        exact isNilOp_sound (neg := true) (by simpa using ho) hk hg hx hE hR
      · obtain ⟨gx, hgx, hP⟩ := bind_some' hP
        obtain ⟨gy, hgy, rfl⟩ := map_some' hP
        exact bin_sound ho hgx hgy hx hE hR
    · obtain ⟨gx, hgx, hP⟩ := bind_some' hP
      obtain ⟨gy, hgy, rfl⟩ := map_some' hP
      exact bin_sound ho hgx hgy hx hE hR
  · -- unOp
    rename_i op t x ho
    obtain ⟨g, hg, rfl⟩ := map_some' hP
    simp only [xi] at hx
    obtain ⟨v, hv, hx⟩ := bind_some' hx
    obtain ⟨hp, hx⟩ := ite_some' hx
    obtain ⟨u, hu, hx⟩ := bind_some' hx
    obtain ⟨hpu, hx⟩ := ite_some' hx
    cases hx
    exact good_plain (s := Op.unary op (a.eval x)) (by simp only [execOp, ho]) hR (by rw [(arg_rel hg hv hE).eq hp]) hu hpu
  · -- convert
    rename_i src dst x ho
    obtain ⟨g, hg, rfl⟩ := map_some' hP
    cases hbs : bytesToStr P src dst with
    | true =>
      rw [hbs] at hx
      exact bstr_sound ho hg hbs hx hE hR
    | false =>
    rw [hbs] at hx
    simp only [cond_false, xi] at hx
    obtain ⟨v, hv, hx⟩ := bind_some' hx
    obtain ⟨hp, hx⟩ := ite_some' hx
    obtain ⟨u, hu, hx⟩ := bind_some' hx
    obtain ⟨hpu, hx⟩ := ite_some' hx
    cases hx
    exact good_plain (s := convert src dst (a.eval x)) (by simp only [execOp, ho]) hR (by rw [(arg_rel hg hv hE).eq hp]) hu hpu
  · -- fieldAddr
    rename_i t x f ho
    obtain ⟨g, hg, hP⟩ := bind_some' hP
    split at hP
    case h_2 => cases hP
    rename_i fs hu
    obtain ⟨fd, hfd, hP⟩ := bind_some' hP
    obtain ⟨s, hs, hP⟩ := bind_some' hP
    split at hP
    · cases hP
    rename_i hs0
    cases hP
    simp only [xi] at hx
    obtain ⟨v, hv, hx⟩ := bind_some' hx
    obtain ⟨p, rfl⟩ : ∃ p, v = .pointer (some p) := by
      cases v with
      | pointer p => cases p with
        | some p => exact ⟨p, rfl⟩
        | none => simp at hx
      | _ => simp at hx
    simp only at hx
    obtain ⟨_, hx⟩ := ite_some' hx
    cases hx
    exact good_same (s := Instr.fieldAt t (a.eval x) f) (by simp only [execOp, ho]) hR (fieldAddr_sound hu hfd hs hs0 (arg_rel hg hv hE))
  · -- field
    rename_i t x f ho
    obtain ⟨g, hg, hP⟩ := bind_some' hP
    split at hP
    case h_2 => cases hP
    rename_i fs hu
    obtain ⟨fd, hfd, hP⟩ := bind_some' hP
    obtain ⟨b, hb, hP⟩ := bind_some' hP
    obtain ⟨s, hs, rfl⟩ := map_some' hP
    simp only [xi] at hx
    obtain ⟨v, hv, hx⟩ := bind_some' hx
    obtain ⟨cs, rfl⟩ : ∃ cs, v = .agg cs := by
      cases v with
      | agg cs => exact ⟨cs, rfl⟩
      | _ => simp at hx
    simp only at hx
    have : ∃ res, r = .val res m ∧ fieldRes b fd.offset s cs = some res := by
      cases b with
      | true => cases hx; exact ⟨_, rfl, rfl⟩
      | false => obtain ⟨u, hu, hx⟩ := bind_some' hx; cases hx; exact ⟨u, rfl, hu⟩
    obtain ⟨res, rfl, hres⟩ := this
    exact good_same (s := Instr.field t (a.eval x) f) (by simp only [execOp, ho]) hR (field_sound hu hfd hs hb (arg_rel hg hv hE) hres)
  · -- indexAddr
    rename_i t x ix ho
    obtain ⟨gx, hgx, hP⟩ := bind_some' hP
    obtain ⟨gi, hgi, hP⟩ := bind_some' hP
    split at hP
    · rename_i el hu
      obtain ⟨s, hs, rfl⟩ := map_some' hP
      simp only [xi] at hx
      obtain ⟨v, hv, hx⟩ := bind_some' hx
      obtain ⟨vi, hvi, hx⟩ := bind_some' hx
      obtain ⟨p, l, k, rfl⟩ : ∃ p l k, v = .slice (some p) l k := by
        cases v with
        | slice p l k => cases p with
          | some p => exact ⟨_, _, _, rfl⟩
          | none => simp at hx
        | _ => simp at hx
      simp only at hx
      obtain ⟨j, hj, hx⟩ := bind_some' hx
      obtain ⟨hlt, hx⟩ := ite_some' hx
      cases hx
      exact good_same (s := Instr.indexAt t (a.eval x) (a.eval ix)) (by simp only [execOp, ho]) hR (indexAddr_sound hu hs (arg_rel hgx hv hE) (arg_rel hgi hvi hE) hj hlt)
    · rename_i n el hu
      obtain ⟨s, hs, rfl⟩ := map_some' hP
      simp only [xi] at hx
      obtain ⟨v, hv, hx⟩ := bind_some' hx
      obtain ⟨vi, hvi, hx⟩ := bind_some' hx
      obtain ⟨p, rfl⟩ : ∃ p, v = .pointer (some p) := by
        cases v with
        | pointer p => cases p with
          | some p => exact ⟨p, rfl⟩
          | none => simp at hx
        | _ => simp at hx
      simp only at hx
      obtain ⟨j, hj, hx⟩ := bind_some' hx
      obtain ⟨⟨hlt, _⟩, hx⟩ := ite_some' hx
      cases hx
      exact good_same (s := Instr.indexAt t (a.eval x) (a.eval ix)) (by simp only [execOp, ho]) hR (indexAddrArr_sound hu hs (arg_rel hgx hv hE) (arg_rel hgi hvi hE) hj hlt)
    · cases hP
  · -- index
    rename_i t x ix ho
    obtain ⟨gx, hgx, hP⟩ := bind_some' hP
    obtain ⟨gi, hgi, rfl⟩ := map_some' hP
    simp only [xi] at hx
    obtain ⟨v, hv, hx⟩ := bind_some' hx
    obtain ⟨vi, hvi, hx⟩ := bind_some' hx
    obtain ⟨hp, hx⟩ := ite_some' hx
    obtain ⟨u, hu, hx⟩ := bind_some' hx
    obtain ⟨hpu, hx⟩ := ite_some' hx
    cases hx
    simp only [Bool.and_eq_true] at hp
    exact good_plain (s := Instr.index t (a.eval x) (a.eval ix)) (by simp only [execOp, ho]) hR (by rw [(arg_rel hgx hv hE).eq hp.1, (arg_rel hgi hvi hE).eq hp.2]) hu hpu
  · -- slice
    rename_i t x lo hi mx ho
    obtain ⟨gx, hgx, hP⟩ := bind_some' hP
    obtain ⟨glo, hglo, hP⟩ := bind_some' hP
    obtain ⟨ghi, hghi, hP⟩ := bind_some' hP
    obtain ⟨gmx, hgmx, hP⟩ := bind_some' hP
    have clean : ∀ {q : Option Operand} {v : Option Value}, ((v = none ∧ q.map a.eval = none ∧ q = none) ∨ ∃ u u', v = some u ∧ q.map a.eval = some u' ∧ VRel ρ u u') →
        (v = none ∧ q.map a.eval = none) ∨ ∃ u u', v = some u ∧ q.map a.eval = some u' ∧ VRel ρ u u' := fun h => h.imp (fun h => ⟨h.1, h.2.1⟩) id
    split at hP
    · rename_i el hu
      obtain ⟨s, hs, rfl⟩ := map_some' hP
      simp only [xi] at hx
      obtain ⟨v, hv, hx⟩ := bind_some' hx
      obtain ⟨l, hl, hx⟩ := bind_some' hx
      obtain ⟨h, hh, hx⟩ := bind_some' hx
      obtain ⟨k, hk, hx⟩ := bind_some' hx
      obtain ⟨p, ln, cp, rfl⟩ : ∃ p l k, v = .slice p l k := by
        cases v with
        | slice p l k => exact ⟨_, _, _, rfl⟩
        | _ => simp at hx
      simp only at hx
      obtain ⟨⟨l', h', c'⟩, hb, hx⟩ := bind_some' hx
      obtain ⟨res, hres, hx⟩ := bind_some' hx
      cases hx
      exact good_same (s := Instr.sliceAt t (a.eval x) (lo.map a.eval) (hi.map a.eval) (mx.map a.eval)) (by simp only [execOp, ho]) hR
        (slice_sound hu hs hR (arg_rel hgx hv hE) hb (clean (argO_rel hglo hl hE)) (clean (argO_rel hghi hh hE)) (clean (argO_rel hgmx hk hE)) hres)
    · rename_i hu
      split at hP
      case h_2 => cases hP
      cases hP
      simp only [xi] at hx
      obtain ⟨v, hv, hx⟩ := bind_some' hx
      obtain ⟨l, hl, hx⟩ := bind_some' hx
      obtain ⟨h, hh, hx⟩ := bind_some' hx
      obtain ⟨s, rfl⟩ : ∃ s, v = .string s := by
        cases v with
        | string s => exact ⟨_, rfl⟩
        | _ => simp at hx
      simp only at hx
      obtain ⟨hp, hx⟩ := ite_some' hx
      obtain ⟨u, hu', hx⟩ := bind_some' hx
      obtain ⟨hpu, hx⟩ := ite_some' hx
      cases hx
      simp only [Bool.and_eq_true] at hp
      have e0 := (arg_rel hgx hv hE).eq (v := .string s) rfl
      have eO : ∀ {q : Option Operand} {v : Option Value}, ((v = none ∧ q.map a.eval = none ∧ q = none) ∨ ∃ u u', v = some u ∧ q.map a.eval = some u' ∧ VRel ρ u u') → (match v with | none => true | some v => plainV v) = true → q.map a.eval = v := by
        intro q v hq hpv
        rcases hq with ⟨rfl, h2, _⟩ | ⟨u, u', rfl, h2, h3⟩
        · exact h2
        · simp only at hpv
          have hplain : plain u = true := by cases u <;> first | exact hpv | simp [plainV] at hpv
          rw [h2, h3.eq hplain]
      have hmx : mx.map a.eval = none := by
        rcases argO_rel (v := none) hgmx rfl hE with ⟨_, h2, _⟩ | ⟨u, u', h, _⟩
        · exact h2
        · cases h
      refine good_plain (s := Instr.sliceAt t (a.eval x) (lo.map a.eval) (hi.map a.eval) (mx.map a.eval)) (s' := Instr.sliceAt t (.string s) l h none) (by simp only [execOp, ho]) hR (by rw [e0, eO (argO_rel hglo hl hE) hp.1, eO (argO_rel hghi hh hE) hp.2, hmx]) ?_ hpu
      unfold Instr.sliceAt
      rw [ans_bind, ans_underlying hu]
      exact hu'
    · rename_i n el hu
      split at hP
      case h_2 => cases hP
      obtain ⟨s, hs, rfl⟩ := map_some' hP
      simp only [xi] at hx
      obtain ⟨v, hv, hx⟩ := bind_some' hx
      obtain ⟨p, rfl⟩ : ∃ p, v = .pointer (some p) := by
        cases v with
        | pointer p => cases p with
          | some p => exact ⟨p, rfl⟩
          | none => simp at hx
        | _ => simp at hx
      simp only at hx
      obtain ⟨hsp', hx⟩ := ite_some' hx
      cases hx
      obtain ⟨c, hsp, hc, hq⟩ := ptr_rel (arg_rel hgx hv hE)
      have hn : ∀ {q : Option Operand} {g : Option Arg}, argO N q = some g → g = none → q = none := by
        intro q g h1 h2
        subst h2
        cases q with
        | none => rfl
        | some q =>
          simp only [argO] at h1
          obtain ⟨_, _, h1⟩ := bind_some' h1
          cases h1
      have e1 := hn hglo rfl
      have e2 := hn hghi rfl
      have e3 := hn hgmx rfl
      subst e1 e2 e3
      refine good_same (s := Instr.sliceAt t (a.eval x) none none none) (by simp only [execOp, ho]; rfl) hR ⟨.slice (some ⟨c.blk, c.off + p.off, none⟩) n n, ?_, .cell (.slice (a := ⟨p.block, p.off, none⟩) rfl hc (Nat.le_refl _))⟩
      rw [hq]
      simp [Instr.sliceAt, Instr.sureAddr, run_underlying hu, Instr.sliceBounds, run_sizeOf' hs, Addr.add_lit]
    · cases hP
  · -- makeSlice
    rename_i t l c ho
    obtain ⟨gl, hgl, hP⟩ := bind_some' hP
    obtain ⟨gc, hgc, hP⟩ := bind_some' hP
    obtain ⟨el, hel, hP⟩ := bind_some' hP
    obtain ⟨z, hz, hP⟩ := bind_some' hP
    obtain ⟨b, hb, rfl⟩ := map_some' hP
    simp only [xi] at hx
    obtain ⟨vl, h1, hx⟩ := bind_some' hx
    obtain ⟨vc, h2, hx⟩ := bind_some' hx
    obtain ⟨nl, h3, hx⟩ := bind_some' hx
    obtain ⟨nc, h4, hx⟩ := bind_some' hx
    obtain ⟨⟨k1, k2, k3⟩, hx⟩ := ite_some' hx
    cases hx
    exact good_of (s := Instr.makeSlice t (a.eval l) (a.eval c)) (by simp only [execOp, ho]) (makeSlice_sound hel hz hb h3 h4 (arg_rel hgl h1 hE) (arg_rel hgc h2 hE) k1 k2 k3 hR)
  · -- makeFunc
    rename_i fn fst cap ho
    obtain ⟨gf, hgf, hP⟩ := bind_some' hP
    obtain ⟨gc, hgc, rfl⟩ := map_some' hP
    simp only [xi] at hx
    obtain ⟨vf, h1, hx⟩ := bind_some' hx
    obtain ⟨vc, h2, hx⟩ := bind_some' hx
    obtain ⟨hone, hx⟩ := ite_some' hx
    cases hx
    simp only [Bool.and_eq_true] at hone
    have toC : ∀ {l l' : List Value}, VsRel ρ l l' → l.all noTup = true → FsRel ρ l l' := by
      intro l l' h
      induction l generalizing l' with
      | nil => intro _; cases h; exact .nil
      | cons v l ih =>
        intro ho
        simp only [List.all_cons, Bool.and_eq_true] at ho
        cases h with
        | cons h t =>
          cases h with
          | cell h => exact .cons h (ih t ho.2)
          | agg h => exact .consA h (ih t ho.2)
          | tuple _ => simp [noTup] at ho
    refine good_val hR (v' := .func fn (fst.map a.eval) (cap.map a.eval)) (.cell (.func ?_ ?_)) (by simp only [execOp, ho]; rfl)
    · simpa using toC (args_rel hgf h1 hE) hone.1
    · simpa using toC (args_rel hgc h2 hE) hone.2
  · -- extract
    rename_i x j ho
    obtain ⟨g, hg, rfl⟩ := map_some' hP
    simp only [xi] at hx
    obtain ⟨v, hv, hx⟩ := bind_some' hx
    obtain ⟨vs, rfl⟩ : ∃ vs, v = .tuple vs := by
      cases v with
      | tuple vs => exact ⟨_, rfl⟩
      | _ => simp at hx
    simp only at hx
    obtain ⟨u, hu, hx⟩ := bind_some' hx
    cases hx
    have hv' := arg_rel hg hv hE
    have : ∃ vs', a.eval x = .tuple vs' ∧ VsRel ρ vs.toList vs'.toList := by
      generalize a.eval x = y at hv'
      cases hv' with
      | cell h => cases h with | plain h => simp [plainV] at h
      | tuple h => exact ⟨_, rfl, h⟩
    obtain ⟨vs', hq, hvs⟩ := this
    obtain ⟨u', k1, k2⟩ := hvs.get j u (by simpa using hu)
    have k1' : vs'[j]? = some u' := by simpa using k1
    refine good_same (s := Instr.extract (a.eval x) j) (by simp only [execOp, ho]) hR ⟨u', ?_, k2⟩
    rw [hq]
    simp [Instr.extract, k1']
  · -- makeMap
    rename_i t r0 ho
    split at hP
    · obtain ⟨p, hp, rfl⟩ := map_some' hP
      exact makeMap_sound ho hx hR
    · cases hP
  · -- lookup
    rename_i t x j ok ho
    obtain ⟨gx, hgx, hP⟩ := bind_some' hP
    obtain ⟨gi, hgi, hP⟩ := bind_some' hP
    obtain ⟨p, hp, hP⟩ := bind_some' hP
    obtain ⟨z, hz, rfl⟩ := map_some' hP
    exact lookup_sound ho hgx hgi hp hz hx hE hR
  · -- mapUpdate
    rename_i t x k v ho
    obtain ⟨gx, hgx, hP⟩ := bind_some' hP
    obtain ⟨gk, hgk, hP⟩ := bind_some' hP
    obtain ⟨gv, hgv, hP⟩ := bind_some' hP
    obtain ⟨p, hp, rfl⟩ := map_some' hP
    exact mapUpdate_sound ho hgx hgk hgv hp hx hE hR
  · -- range
    rename_i t x ho
    obtain ⟨gx, hgx, hP⟩ := bind_some' hP
    obtain ⟨p, hp, rfl⟩ := map_some' hP
    exact mapRange_sound ho hgx hp hx hE hR
  · -- next
    rename_i x b ho
    split at hP
    · obtain ⟨gx, hgx, rfl⟩ := map_some' hP
      exact mapNext_sound ho hgx hx hE hR
    · cases hP
  · -- entry
    rename_i x ho
    obtain ⟨gx, hgx, rfl⟩ := map_some' hP
    exact mapEntry_sound ho hgx hx hE hR
  · -- makeInterface
    rename_i t x ho
    obtain ⟨gx, hgx, hP⟩ := bind_some' hP
    split at hP
    · cases hP
    · rename_i d hni hu
      cases hP
      exact makeIface_sound ho hgx hu (fun ms hd => hni ms hd) hx hE hR
    · cases hP
  · -- defer
    rename_i c ho
    split at hP
    · obtain ⟨hc, hP⟩ := ite_some' hP
      obtain ⟨as, has, rfl⟩ := map_some' hP
      simp [xi] at hx
    · obtain ⟨hc, hP⟩ := ite_some' hP
      obtain ⟨as, has, rfl⟩ := map_some' hP
      simp [xi] at hx
    · cases hP
  · -- call
    rename_i c ho
    exact callP_sound ho hP hx hE hR
  · cases hP

theorem op_sound {o : Oper} {i : XI} (hP : opP P N o = some i) (hx : xi P e m i = some r) (hE : ERel P ρ N e a) (hR : Rel ρ m w) : Good P ρ m w ((execOp a.eval o).run P w) r := by
  unfold opP at hP
  cases h0 : opP0 P N o with
  | none =>
    rw [h0] at hP
    cases hP
    simp [xi] at hx
  | some j =>
    rw [h0] at hP
    cases hP
    exact op_sound0 h0 hx hE hR

end
end Go.Proofs.YtnlmnejellipdaaGreat.X
