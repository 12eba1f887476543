/-
  Own work. More operations of the abstract run.
-/
import Derived.Test.YtnlmnejellipdaaGreatXStep
namespace Go.Proofs.YtnlmnejellipdaaGreat.X
open Go
set_option linter.unusedVariables false
set_option linter.unusedSimpArgs false

section
variable {P : Program} {ρ : Rho} {N : Nat} {e : Env} {a : Act} {m : Mem} {w : World} {r : XR}

/-! comparisons -/
theorem eqGuard_plain (op : BinOp) (t : TypeId) (x y x' y' : Operand) (u v : Value) (hu : plain u = true) (hv : plain v = true) : eqGuard op t x y u v = eqGuard op t x' y' u v := by
  unfold eqGuard
  cases u <;> cases v <;> first | rfl | (simp [plain, plainV] at hu; done) | (simp [plain, plainV] at hv; done)

theorem run_eqGuard_cell (op : BinOp) (t : TypeId) (x y : Operand) (u v : Value) (hu : u.oneCell' = true) (hn : u ≠ .nilIface) (w : World) : (eqGuard op t x y u v).run P w = .ok () w := by
  unfold eqGuard
  cases u <;> cases v <;> first | (simp [Value.oneCell'] at hu; done) | exact absurd rfl hn | (cases op <;> rfl)

theorem eq_ptr (d : Nat) {t el : TypeId} (hu : P.underlying t = some (.pointer el)) (p : Option Addr) (w : World) : (Op.equalIn (d + 1) t (.pointer p) (.pointer none)).run P w = .ok p.isNone w := by
  cases p <;> simp [Op.equalIn, run_underlying hu]
theorem eq_slice (d : Nat) {t el : TypeId} (hu : P.underlying t = some (.slice el)) (p : Option Addr) (l c : Nat) (w : World) : (Op.equalIn (d + 1) t (.slice p l c) (.slice none 0 0)).run P w = .ok p.isNone w := by
  cases p <;> simp [Op.equalIn, run_underlying hu]
theorem eq_map (d : Nat) {t k el : TypeId} (hu : P.underlying t = some (.map k el)) (p : Option Nat) (w : World) : (Op.equalIn (d + 1) t (.map p) (.map none)).run P w = .ok p.isNone w := by
  cases p <;> simp [Op.equalIn, run_underlying hu]
theorem eq_func (d : Nat) {t : TypeId} {ps rs : Array TypeId} {v : Bool} (hu : P.underlying t = some (.func ps rs v)) (fn : Fn) (f c : Array Value) (w : World) : (Op.equalIn (d + 1) t (.func fn f c) .nilFunc).run P w = .ok false w := by
  simp [Op.equalIn, run_underlying hu]
theorem eq_func_nil (d : Nat) {t : TypeId} {ps rs : Array TypeId} {v : Bool} (hu : P.underlying t = some (.func ps rs v)) (w : World) : (Op.equalIn (d + 1) t .nilFunc .nilFunc).run P w = .ok true w := by
  simp [Op.equalIn, run_underlying hu]

theorem eq_iface (d : Nat) {t u : TypeId} {ms : Array (String × TypeId)} (hu : P.underlying t = some (.interface ms)) (v : Value) (w : World) : (Op.equalIn (d + 1) t (.iface u v) .nilIface).run P w = .ok false w := by
  simp [Op.equalIn, run_underlying hu]
theorem eq_iface_nil (d : Nat) {t : TypeId} {ms : Array (String × TypeId)} (hu : P.underlying t = some (.interface ms)) (w : World) : (Op.equalIn (d + 1) t .nilIface .nilIface).run P w = .ok true w := by
  simp [Op.equalIn, run_underlying hu]
theorem run_eqGuard_nil (op : BinOp) (t : TypeId) (x : Operand) (w : World) : (eqGuard op t x (.const .nilIface) .nilIface .nilIface).run P w = .ok () w := by
  unfold eqGuard
  cases op <;> cases x <;> rfl

theorem eql_run {t : TypeId} {u v : Value} {b : Bool} (neg : Bool) (x y : Operand) (hb1 : binOp .eql t u v = (do pure (.bool (← Op.equal t u v)))) (hb2 : binOp .neq t u v = (do pure (.bool (!(← Op.equal t u v)))))
    (he : (Op.equalIn (9999 + 1) t u v).run P w = .ok b w) (h1 : u.oneCell' = true) (hn : u ≠ .nilIface) :
    (do eqGuard (if neg then .neq else .eql) t x y u v; binOp (if neg then .neq else .eql) t u v).run P w = .ok (.bool (b != neg)) w := by
  have he' : (Op.equal t u v).run P w = .ok b w := he
  rw [Sem.run_bind, run_eqGuard_cell _ _ _ _ _ _ h1 hn, Result.andThen_ok]
  cases neg
  · rw [if_neg (by simp), hb1]; simp only [Sem.run_bind, he', Result.andThen_ok, Sem.run_pure]; cases b <;> rfl
  · rw [if_pos rfl, hb2]; simp only [Sem.run_bind, he', Result.andThen_ok, Sem.run_pure]; cases b <;> rfl

def nilRes (k : NK) (neg : Bool) (v : Value) : Option Value :=
  match k, v with
  | .ptr, .pointer p => some (.bool (p.isNone != neg))
  | .slice, .slice p _ _ => some (.bool (p.isNone != neg))
  | .map, .map p => some (.bool (p.isNone != neg))
  | .func, .nilFunc => some (.bool (!neg))
  | .func, .func _ _ _ => some (.bool neg)
  | .iface, .nilIface => some (.bool (!neg))
  | .iface, .iface _ _ => some (.bool neg)
  | _, _ => none

theorem isNil_sound {k : NK} {neg : Bool} {t : TypeId} {y : Operand} {v v' : Value} {res : Value} (hk : nilKind P t y = some k) (hv : VRel ρ v v')
    (hr : nilRes k neg v = some res) (x : Operand) (w : World) :
    (do eqGuard (if neg then .neq else .eql) t x y v' (a.eval y); binOp (if neg then .neq else .eql) t v' (a.eval y)).run P w = .ok res w := by
  unfold nilKind at hk
  split at hk
  · split at hk
    case h_2 => cases hk
    rename_i hu
    cases hk
    cases v <;> simp only [nilRes, reduceCtorEq, Option.some.injEq] at hr
    subst hr
    rename_i p0
    have : ∃ q, v' = .pointer q ∧ q.isNone = p0.isNone := by
      cases hv with
      | cell h => cases h with
        | plain h => exact ⟨_, rfl, rfl⟩
        | ptr _ _ => exact ⟨_, rfl, rfl⟩
    obtain ⟨q, rfl, hq⟩ := this
    rw [← hq]
    exact eql_run neg x _ (by cases q <;> rfl) (by cases q <;> rfl) (eq_ptr 9999 hu q w) rfl (by simp)
  · split at hk
    case h_2 => cases hk
    rename_i hu
    cases hk
    cases v <;> simp only [nilRes, reduceCtorEq, Option.some.injEq] at hr
    subst hr
    rename_i p0 l0 c0
    have : ∃ q l c, v' = .slice q l c ∧ q.isNone = p0.isNone := by
      cases hv with
      | cell h => cases h with
        | plain h => exact ⟨_, _, _, rfl, rfl⟩
        | slice _ _ _ => exact ⟨_, _, _, rfl, rfl⟩
        | slack _ _ _ _ _ => exact ⟨_, _, _, rfl, rfl⟩
        | zero _ => exact ⟨_, _, _, rfl, rfl⟩
    obtain ⟨q, l, c, rfl, hq⟩ := this
    rw [← hq]
    exact eql_run neg x _ (by cases q <;> rfl) (by cases q <;> rfl) (eq_slice 9999 hu q l c w) rfl (by simp)
  · split at hk
    case h_2 => cases hk
    rename_i hu
    cases hk
    cases v <;> simp only [nilRes, reduceCtorEq, Option.some.injEq] at hr
    subst hr
    rename_i p0
    have : ∃ q, v' = .map q ∧ q.isNone = p0.isNone := by
      cases hv with
      | cell h => cases h with
        | plain h => exact ⟨_, rfl, rfl⟩
        | map _ => exact ⟨_, rfl, rfl⟩
    obtain ⟨q, rfl, hq⟩ := this
    rw [← hq]
    exact eql_run neg x _ (by cases q <;> rfl) (by cases q <;> rfl) (eq_map 9999 hu _ w) rfl (by simp)
  · split at hk
    case h_2 => cases hk
    rename_i hu
    cases hk
    cases v <;> simp only [nilRes, reduceCtorEq, Option.some.injEq] at hr
    · subst hr
      rename_i fn f c
      have : ∃ f' c', v' = .func fn f' c' := by
        cases hv with
        | cell h => cases h with
          | plain h => simp [plainV] at h
          | func _ _ => exact ⟨_, _, rfl⟩
      obtain ⟨f', c', rfl⟩ := this
      have e1 : a.eval (.const .nilFunc) = .nilFunc := rfl
      rw [e1]
      have := eql_run (b := false) (P := P) (w := w) (t := t) neg x (.const .nilFunc) rfl rfl (eq_func 9999 hu fn f' c' w) rfl (by simp)
      simpa using this
    · subst hr
      have := hv.eq rfl
      subst this
      have e1 : a.eval (.const .nilFunc) = .nilFunc := rfl
      rw [e1]
      have := eql_run (b := true) (P := P) (w := w) (t := t) neg x (.const .nilFunc) rfl rfl (eq_func_nil 9999 hu w) rfl (by simp)
      simpa using this
  · split at hk
    case h_2 => cases hk
    rename_i hu
    cases hk
    have e1 : a.eval (.const .nilIface) = .nilIface := rfl
    rw [e1]
    cases v <;> simp only [nilRes, reduceCtorEq, Option.some.injEq] at hr
    · subst hr
      rename_i u v0
      have : ∃ v1, v' = .iface u v1 := by
        cases hv with
        | cell h => cases h with
          | plain h => simp [plainV] at h
          | iface _ => exact ⟨_, rfl⟩
          | ifaceA _ => exact ⟨_, rfl⟩
      obtain ⟨v1, rfl⟩ := this
      have := eql_run (b := false) (P := P) (w := w) (t := t) neg x (.const .nilIface) rfl rfl (eq_iface (u := u) 9999 hu v1 w) rfl (by simp)
      simpa using this
    · subst hr
      have : v' = .nilIface := by
        cases hv with
        | cell h => cases h with
          | plain h => simp [plainV] at h
          | nilI => rfl
      subst this
      have he' : (Op.equal t .nilIface .nilIface).run P w = .ok true w := eq_iface_nil 9999 hu w
      rw [Sem.run_bind, run_eqGuard_nil, Result.andThen_ok]
      cases neg <;> simp [binOp, he']
  · cases hk

/-! addresses -/
theorem fieldAddr_sound {t : TypeId} {fs : Array Field} {f s : Nat} {fd : Field} {b : Addr} {v' : Value} (hu : P.underlying t = some (.struct fs)) (hf : fs[f]? = some fd) (hs : sizeP P fd.type = some s) (hs0 : s ≠ 0)
    (hv : VRel ρ (.pointer (some b)) v') : ∃ u', (Instr.fieldAt t v' f).run P w = .ok u' w ∧ VRel ρ (.pointer (some ⟨b.block, b.off + fd.offset, none⟩)) u' := by
  obtain ⟨c, hsp, hc, rfl⟩ := ptr_rel hv
  refine ⟨.pointer (some ⟨c.blk, c.off + (b.off + fd.offset), none⟩), ?_, .cell (.ptr rfl hc)⟩
  simp only [Instr.fieldAt, Sem.run_bind, run_underlying hu, Result.andThen_ok, hf, Instr.sureAddr, Sem.run_pure, fieldPlace, run_sizeOf' hs]
  rw [if_neg hs0]
  simp [Addr.add_lit, Nat.add_assoc]

def fieldRes (g : Bool) (off s : Nat) (cs : Array Value) : Option Value :=
  match g with
  | true => some (.agg (cs.extract off (off + s)))
  | false => cs[off]?

theorem field_sound {t : TypeId} {fs : Array Field} {f s : Nat} {g : Bool} {fd : Field} {cs : Array Value} {v' res : Value} (hu : P.underlying t = some (.struct fs)) (hf : fs[f]? = some fd) (hs : sizeP P fd.type = some s) (hg : aggP P fd.type = some g)
    (hv : VRel ρ (.agg cs) v') (hr : fieldRes g fd.offset s cs = some res) :
    ∃ u', (Instr.field t v' f).run P w = .ok u' w ∧ VRel ρ res u' := by
  cases hv with
  | cell h => cases h with | plain h => simp [plainV] at h
  | agg h =>
    rename_i cs'
    cases g with
    | true =>
      simp only [fieldRes, Option.some.injEq] at hr
      subst hr
      refine ⟨.agg (cs'.extract fd.offset (fd.offset + s)), ?_, .agg ?_⟩
      · simp [Instr.field, run_underlying hu, hf, asAgg, part, run_isAgg' hg, run_sizeOf' hs]
      · simp only [Array.toList_extract, List.extract_eq_take_drop]
        exact (h.drop _).take _
    | false =>
      simp only [fieldRes] at hr
      obtain ⟨u', h1, h2⟩ := h.get fd.offset res (by simpa using hr)
      refine ⟨u', ?_, .cell h2⟩
      have h1' : cs'[fd.offset]? = some u' := by simpa using h1
      simp [Instr.field, run_underlying hu, hf, asAgg, part, run_isAgg' hg, h1']

theorem indexAddr_sound {t el : TypeId} {s len cap j : Nat} {b : Addr} {v' vi vi' : Value} (hu : P.underlying t = some (.slice el)) (hs : sizeP P el = some s) (hv : VRel ρ (.slice (some b) len cap) v') (hi : VRel ρ vi vi')
    (hj : asNat vi = some j) (hlt : j < len) : ∃ u', (Instr.indexAt t v' vi').run P w = .ok u' w ∧ VRel ρ (.pointer (some ⟨b.block, b.off + j * s, none⟩)) u' := by
  obtain ⟨k, rfl, rfl⟩ := asNat_rel hj hi
  have hcase : ∃ c cap', ρ b.block = some c ∧ v' = .slice (some ⟨c.blk, c.off + b.off, none⟩) len cap' := by
    cases hv with
    | cell h => cases h with
      | plain h => simp [plainV] at h
      | slice _ hc _ => exact ⟨_, _, hc, rfl⟩
      | slack _ hc hl hcap _ hx =>
        obtain ⟨rfl, _⟩ := hx.resolve_left (by omega)
        exact ⟨_, _, hc, rfl⟩
      | zero _ => omega
  obtain ⟨c, cap', hc, rfl⟩ := hcase
  refine ⟨.pointer (some ⟨c.blk, c.off + (b.off + j * s), none⟩), ?_, .cell (.ptr rfl hc)⟩
  have hb : (0 : Int) ≤ (j : Int) ∧ (j : Int) < (len : Int) := by omega
  simp [Instr.indexAt, asIntOf, run_underlying hu, hlt, run_sizeOf' hs, Addr.add_lit, Nat.add_assoc]

theorem indexAddrArr_sound {t el : TypeId} {n s j : Nat} {b : Addr} {v' vi vi' : Value} (hu : P.underlying t = some (.array n el)) (hs : sizeP P el = some s) (hv : VRel ρ (.pointer (some b)) v') (hi : VRel ρ vi vi')
    (hj : asNat vi = some j) (hlt : j < n) : ∃ u', (Instr.indexAt t v' vi').run P w = .ok u' w ∧ VRel ρ (.pointer (some ⟨b.block, b.off + j * s, none⟩)) u' := by
  obtain ⟨k, rfl, rfl⟩ := asNat_rel hj hi
  obtain ⟨c, _, hc, rfl⟩ := ptr_rel hv
  refine ⟨.pointer (some ⟨c.blk, c.off + (b.off + j * s), none⟩), ?_, .cell (.ptr rfl hc)⟩
  simp [Instr.indexAt, Instr.sureAddr, asIntOf, run_underlying hu, hlt, run_sizeOf' hs, Addr.add_lit, Nat.add_assoc]

/-! slices -/
theorem run_sliceBound {x : Value} {k : IntKind} {n y : Nat} (code : BoundsCode) (hx : x = .int k n) (h : n ≤ y) (w : World) : (Instr.sliceBound x y code).run P w = .ok n w := by
  subst hx
  simp [Instr.sliceBound, asIntOf, h]

theorem bounds_sound {len cap cap' l h c : Nat} {lo hi mx lo' hi' mx' : Option Value} (hb : xbounds len cap lo hi mx = some (l, h, c)) (hlen : len ≤ cap) (hcap : cap ≤ cap')
    (h1 : (lo = none ∧ lo' = none) ∨ ∃ u u', lo = some u ∧ lo' = some u' ∧ VRel ρ u u') (h2 : (hi = none ∧ hi' = none) ∨ ∃ u u', hi = some u ∧ hi' = some u' ∧ VRel ρ u u')
    (h3 : (mx = none ∧ mx' = none) ∨ ∃ u u', mx = some u ∧ mx' = some u' ∧ VRel ρ u u') :
    (Instr.sliceBounds true len cap' lo' hi' mx').run P w = .ok (l, h, if mx.isNone then cap' else c) w ∧ l ≤ h ∧ h ≤ c ∧ c ≤ cap ∧ (mx = none → c = cap) := by
  unfold xbounds at hb
  rcases h3 with ⟨rfl, rfl⟩ | ⟨um, um', rfl, rfl, hum⟩
  · simp only [Option.bind_some] at hb
    rcases h2 with ⟨rfl, rfl⟩ | ⟨uh, uh', rfl, rfl, huh⟩
    · simp only [Option.bind_some] at hb
      rcases h1 with ⟨rfl, rfl⟩ | ⟨ul, ul', rfl, rfl, hul⟩
      · simp only [Option.bind_some, Option.some.injEq, Prod.mk.injEq] at hb
        obtain ⟨rfl, rfl, rfl⟩ := hb
        exact ⟨by simp [Instr.sliceBounds], by omega, by omega, by omega, fun _ => rfl⟩
      · cases hn : asNat ul with
        | none => simp [hn] at hb
        | some nl =>
          simp only [hn, Option.bind_some] at hb
          split at hb
          case isFalse => simp at hb
          rename_i hle
          simp only [Option.bind_some, Option.some.injEq, Prod.mk.injEq] at hb
          obtain ⟨rfl, rfl, rfl⟩ := hb
          obtain ⟨k, e1, _⟩ := asNat_rel hn hul
          exact ⟨by simp [Instr.sliceBounds, run_sliceBound _ e1 hle], by omega, by omega, by omega, fun _ => rfl⟩
    · cases hn : asNat uh with
      | none => simp [hn] at hb
      | some nh =>
        simp only [hn, Option.bind_some] at hb
        split at hb
        case isFalse => simp at hb
        rename_i hle
        simp only [Option.bind_some] at hb
        obtain ⟨k, e1, _⟩ := asNat_rel hn huh
        have hle' : nh ≤ cap' := by omega
        rcases h1 with ⟨rfl, rfl⟩ | ⟨ul, ul', rfl, rfl, hul⟩
        · simp only [Option.bind_some, Option.some.injEq, Prod.mk.injEq] at hb
          obtain ⟨rfl, rfl, rfl⟩ := hb
          exact ⟨by simp [Instr.sliceBounds, run_sliceBound _ e1 hle'], by omega, by omega, by omega, fun _ => rfl⟩
        · cases hn2 : asNat ul with
          | none => simp [hn2] at hb
          | some nl =>
            simp only [hn2, Option.bind_some] at hb
            split at hb
            case isFalse => simp at hb
            rename_i hle2
            simp only [Option.bind_some, Option.some.injEq, Prod.mk.injEq] at hb
            obtain ⟨rfl, rfl, rfl⟩ := hb
            obtain ⟨k2, e2, _⟩ := asNat_rel hn2 hul
            exact ⟨by simp [Instr.sliceBounds, run_sliceBound _ e1 hle', run_sliceBound _ e2 hle2], by omega, by omega, by omega, fun _ => rfl⟩
  · cases hnm : asNat um with
    | none => simp [hnm] at hb
    | some nm =>
      simp only [hnm, Option.bind_some] at hb
      split at hb
      case isFalse => simp at hb
      rename_i hlem
      simp only [Option.bind_some] at hb
      obtain ⟨km, em, _⟩ := asNat_rel hnm hum
      have hlem' : nm ≤ cap' := by omega
      rcases h2 with ⟨rfl, rfl⟩ | ⟨uh, uh', rfl, rfl, huh⟩
      · simp at hb
      · cases hn : asNat uh with
        | none => simp [hn] at hb
        | some nh =>
          simp only [hn, Option.bind_some] at hb
          split at hb
          case isFalse => simp at hb
          rename_i hle
          simp only [Option.bind_some] at hb
          obtain ⟨k, e1, _⟩ := asNat_rel hn huh
          rcases h1 with ⟨rfl, rfl⟩ | ⟨ul, ul', rfl, rfl, hul⟩
          · simp only [Option.bind_some, Option.some.injEq, Prod.mk.injEq] at hb
            obtain ⟨rfl, rfl, rfl⟩ := hb
            exact ⟨by simp [Instr.sliceBounds, run_sliceBound _ em hlem', run_sliceBound _ e1 hle], by omega, by omega, by omega, fun h => by cases h⟩
          · cases hn2 : asNat ul with
            | none => simp [hn2] at hb
            | some nl =>
              simp only [hn2, Option.bind_some] at hb
              split at hb
              case isFalse => simp at hb
              rename_i hle2
              simp only [Option.bind_some, Option.some.injEq, Prod.mk.injEq] at hb
              obtain ⟨rfl, rfl, rfl⟩ := hb
              obtain ⟨k2, e2, _⟩ := asNat_rel hn2 hul
              exact ⟨by simp [Instr.sliceBounds, run_sliceBound _ em hlem', run_sliceBound _ e1 hle, run_sliceBound _ e2 hle2], by omega, by omega, by omega, fun h => by cases h⟩

end
end Go.Proofs.YtnlmnejellipdaaGreat.X
