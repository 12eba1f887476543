/-
  Own work (printed by xfast.py from XCore): the evaluator again, in small pieces: the kernel copies a definition's whole text at each of its steps. The same answers.
-/
import Derived.Test.YtglefgcnafoafaaGreatDoorXCore
namespace Go.Proofs.YtglefgcnafoafaaGreatDoor.X
namespace Q
open Go
set_option linter.unusedVariables false
set_option linter.unusedSimpArgs false

noncomputable def lookF (e : Env) (s : Nat) : Option Value := List.rec none (fun kv _ ih => Bool.rec ih (some (Prod.rec (fun _ v => v) kv)) (Nat.beq (Prod.rec (fun k _ => k) kv) s)) e
theorem lookF_eq (s : Nat) : ∀ e : Env, lookF e s = look e s
  | [] => rfl
  | (k, v) :: r => by
    have ih := lookF_eq s r
    show (Bool.rec (lookF r s) (some v) (Nat.beq k s) : Option Value) = if k = s then some v else look r s
    by_cases h : k = s
    · rw [if_pos h, h, Nat.beq_refl]
    · rw [if_neg h, ih.symm]
      have : Nat.beq k s = false := by cases hb : Nat.beq k s with
        | false => rfl
        | true => exact absurd (Nat.eq_of_beq_eq_true hb) h
      rw [this]
noncomputable def _root_.Go.Proofs.YtglefgcnafoafaaGreatDoor.X.Arg.evF (e : Env) (a : Arg) : Option Value := Arg.rec (fun s => lookF e s) (fun v => some v) a
theorem evF_eq (e : Env) (a : Arg) : a.evF e = a.ev e := by cases a with
  | t s => exact lookF_eq s e
  | c v => rfl
noncomputable def evsF (e : Env) : List Arg → Option (List Value)
  | [] => some []
  | a :: r => (a.evF e).bind fun v => (evsF e r).bind fun vs => some (v :: vs)
theorem evsF_eq (e : Env) : ∀ l, evsF e l = evs e l
  | [] => rfl
  | a :: r => by simp only [evsF, evs, evF_eq, evsF_eq e r]
noncomputable def evOF (e : Env) : Option Arg → Option (Option Value)
  | none => some none
  | some a => (a.evF e).bind fun v => some (some v)
theorem evOF_eq (e : Env) (o : Option Arg) : evOF e o = evO e o := by cases o <;> simp only [evOF, evO, evF_eq]
noncomputable def xpartsF (e : Env) : List (Nat × Arg) → Option (List (Nat × Value))
  | [] => some []
  | (i, a) :: r => (a.evF e).bind fun v => if noTup v then (xpartsF e r).bind fun vs => some ((i, v) :: vs) else none
theorem xpartsF_eq (e : Env) : ∀ l, xpartsF e l = xparts e l
  | [] => rfl
  | (i, a) :: r => by simp only [xpartsF, xparts, evF_eq, xpartsF_eq e r]
noncomputable def wantedF (e : Env) (g : Option (Nat × Bool)) : Option Bool :=
  match g with
  | none => some true
  | some (s, want) => match lookF e s with
    | some (.bool b) => some (b == want)
    | some (.tuple vs) => if vs.size = 0 then some false else none
    | _ => none
theorem wantedF_eq (e : Env) (g : Option (Nat × Bool)) : wantedF e g = wantedX e g := by
  cases g with
  | none => rfl
  | some g => simp only [wantedF, wantedX, lookF_eq]; cases look e g.1 with
    | none => rfl
    | some v => cases v <;> rfl
noncomputable def restrictC (s : Nat) (r : Env) : Option Value → Env
  | none => r
  | some v => (s, v) :: r
noncomputable def restrictF (e : Env) (l : List Nat) : Env := List.rec [] (fun s _ ih => restrictC s ih (lookF e s)) l
theorem restrictF_eq (e : Env) : ∀ l, restrictF e l = restrict e l
  | [] => rfl
  | s :: r => by
    have ih := restrictF_eq e r
    show restrictC s (restrictF e r) (lookF e s) = _
    rw [ih, lookF_eq, restrict]
    cases look e s <;> rfl
noncomputable def keepF (k : Option (List Nat)) (e : Env) : Env :=
  match k with
  | none => e
  | some l => restrictF e l
theorem keepF_eq (k : Option (List Nat)) (e : Env) : keepF k e = keepOf k e := by cases k with
  | none => rfl
  | some l => exact restrictF_eq e l
noncomputable def _root_.Option.bindF {α β : Type} (o : Option α) (f : α → Option β) : Option β := Option.rec none f o
theorem bindF_eq {α β : Type} (o : Option α) (f : α → Option β) : o.bindF f = o.bind f := by cases o <;> rfl
theorem brec {α : Type} {a b : α} {i j : Nat} : (Bool.rec a b (Nat.beq i j) : α) = if i = j then b else a := by
  by_cases h : i = j
  · subst h; rw [Nat.beq_refl, if_pos rfl]
  · have : Nat.beq i j = false := by cases hb : Nat.beq i j with
      | false => rfl
      | true => exact absurd (Nat.eq_of_beq_eq_true hb) h
    rw [this, if_neg h]
section
variable {α : Type}
noncomputable def getT (t : Tr α) (i : Nat) : Option α :=
  Tr.rec (fun _ => none) (fun v _ _ gl gr i => Bool.rec (Bool.rec (gr (Nat.sub (Nat.div i 2) 1)) (gl (Nat.div i 2)) (Nat.beq (Nat.mod i 2) 1)) v (Nat.beq i 0)) t i
theorem getT_eq : ∀ (t : Tr α) (i : Nat), getT t i = t.get i
  | .e, _ => rfl
  | .n v l r, i => by
    show (Bool.rec (Bool.rec (getT r (i / 2 - 1)) (getT l (i / 2)) (Nat.beq (i % 2) 1)) v (Nat.beq i 0) : Option α) = _
    rw [brec, brec, getT_eq l, getT_eq r, Tr.get]
noncomputable def setT (x : Option α) (t : Tr α) (i : Nat) : Tr α :=
  Tr.rec (fun i => Tr.setF (i + 1) .e i x) (fun v l r sl sr i => Bool.rec (Bool.rec (.n v l (sr (Nat.sub (Nat.div i 2) 1))) (.n v (sl (Nat.div i 2)) r) (Nat.beq (Nat.mod i 2) 1)) (.n x l r) (Nat.beq i 0)) t i
theorem setF_fuel (x : Option α) : ∀ (f g : Nat) (t : Tr α) (i : Nat), i < f → i < g → Tr.setF f t i x = Tr.setF g t i x := by
  intro f
  induction f with
  | zero => intro g t i h; omega
  | succ f ih =>
    intro g t i h h'
    obtain ⟨g, rfl⟩ : ∃ k, g = k + 1 := ⟨g - 1, by omega⟩
    by_cases h0 : i = 0
    · subst h0; cases t <;> rfl
    · cases t <;> simp only [Tr.setF, if_neg h0] <;> (by_cases h1 : i % 2 = 1 <;> simp only [h1, if_true, if_false] <;> rw [ih g _ _ (by omega) (by omega)])
theorem setT_eq (x : Option α) : ∀ (t : Tr α) (i : Nat), setT x t i = t.set i x
  | .e, _ => rfl
  | .n v l r, i => by
    show (Bool.rec (Bool.rec (.n v l (setT x r (i / 2 - 1))) (.n v (setT x l (i / 2)) r) (Nat.beq (i % 2) 1)) (.n x l r) (Nat.beq i 0) : Tr α) = _
    rw [brec, brec, setT_eq x l, setT_eq x r]
    show _ = Tr.setF (i + 1) (.n v l r) i x
    simp only [Tr.setF, Tr.set]
    by_cases h0 : i = 0
    · rw [if_pos h0, if_pos h0]
    · rw [if_neg h0, if_neg h0, setF_fuel x (i / 2 + 1) i l (i / 2) (by omega) (by omega), setF_fuel x (i / 2 - 1 + 1) i r (i / 2 - 1) (by omega) (by omega)]
end
noncomputable def _root_.Go.Proofs.YtglefgcnafoafaaGreatDoor.X.Mem.getQ (m : Mem) (i : Nat) : Option XObj := getT m.t i
noncomputable def _root_.Go.Proofs.YtglefgcnafoafaaGreatDoor.X.Mem.setQ (m : Mem) (i : Nat) (o : XObj) : Mem := { t := setT (some o) m.t i, next := m.next }
noncomputable def _root_.Go.Proofs.YtglefgcnafoafaaGreatDoor.X.Mem.pushQ (m : Mem) (o : XObj) : Mem := { t := setT (some o) m.t m.next, next := Nat.succ m.next }
noncomputable def _root_.Go.Proofs.YtglefgcnafoafaaGreatDoor.X.Mem.eraseAllQ (m : Mem) (l : List Nat) : Mem := List.rec (fun m => m) (fun i _ ih m => ih { t := setT none m.t i, next := m.next }) l m
theorem getQ_eq (m : Mem) (i : Nat) : m.getQ i = m.get i := getT_eq _ _
theorem setQ_eq (m : Mem) (i : Nat) (o : XObj) : m.setQ i o = m.set i o := by simp only [Mem.setQ, Mem.set, setT_eq]
theorem pushQ_eq (m : Mem) (o : XObj) : m.pushQ o = m.push o := by simp only [Mem.pushQ, Mem.push, setT_eq]
theorem eraseAllQ_eq : ∀ (l : List Nat) (m : Mem), m.eraseAllQ l = m.eraseAll l
  | [], _ => rfl
  | i :: r, m => by
    show Mem.eraseAllQ { t := setT none m.t i, next := m.next } r = _
    rw [eraseAllQ_eq r, setT_eq]
    rfl
noncomputable def xloadQ (m : Mem) (a : Addr) (n : Nat) : Option (List Value) :=
  match a.spot with
  | some _ => none
  | none =>
    match m.getQ a.block with
    | none => none
    | some o => if a.off + n ≤ o.cells.length then some ((o.cells.drop a.off).take n) else none
theorem xloadQ_eq (m : Mem) (a : Addr) (n : Nat) : xloadQ m a n = xload m a n := by
  unfold xloadQ xload
  rw [getQ_eq]
  rfl
noncomputable def xstoreQ (m : Mem) (a : Addr) (vs : List Value) : Option Mem :=
  match a.spot with
  | some _ => none
  | none =>
    match m.getQ a.block with
    | none => none
    | some o =>
      if o.rw = true ∧ a.off + vs.length ≤ o.cells.length then
        some ((m.eraseAllQ o.kin).setQ a.block { o with cells := setAll o.cells a.off vs, kin := [] })
      else none
theorem xstoreQ_eq (m : Mem) (a : Addr) (vs : List Value) : xstoreQ m a vs = xstore m a vs := by
  unfold xstoreQ xstore
  simp only [getQ_eq, eraseAllQ_eq, setQ_eq]
  rfl
noncomputable def xboxQ (m : Mem) (cells : List Value) : Value × Mem :=
  (.pointer (some ⟨m.next, 0, none⟩), m.pushQ { cells, rw := true, spare := none, kin := [] })
theorem xboxQ_eq (m : Mem) (cells : List Value) : xboxQ m cells = xbox m cells := by
  unfold xboxQ xbox
  rw [pushQ_eq]
structure OpR where
  run : Env → Mem → Option XR

noncomputable def xi_fail (P : Program)  (e : Env) (m : Mem) : Option XR := none
noncomputable def xi_dfr (P : Program) (_u0 : List Arg) (e : Env) (m : Mem) : Option XR := none
noncomputable def xi_dfrc (P : Program) (_u0 : Arg) (e : Env) (m : Mem) : Option XR := none
noncomputable def xi_makeMap (P : Program)  (e : Env) (m : Mem) : Option XR := some (.val (.map (some m.next)) (m.pushQ { cells := [], rw := true, spare := none, kin := [], ext := .map [] 0 }))
noncomputable def xi_lookup (P : Program) (ki : Bool) (zero : Value) (ok : Bool) (x : Arg) (i : Arg) (e : Env) (m : Mem) : Option XR := (x.evF e).bindF fun v => (i.evF e).bindF fun k => if keyK ki k then (mapEs m v).bindF fun es => (findK ki k es 0).bindF fun r =>
      let p : Value × Bool := match r with
        | some (_, v) => (v, true)
        | none => (zero, false)
      some (.val (if ok then .tuple #[p.1, .bool p.2] else p.1) m) else none
noncomputable def xi_mapUpdate (P : Program) (ki : Bool) (x : Arg) (k : Arg) (v : Arg) (e : Env) (m : Mem) : Option XR := (x.evF e).bindF fun vx => (k.evF e).bindF fun vk => (v.evF e).bindF fun vv => if keyK ki vk && noTup vv then
      (mapRw m vx).bindF fun (b, o, es, clock) => (findK ki vk es 0).bindF fun r => match r with
        | some (i, _) => some (.skip (m.set b { o with ext := .map (setV es i vv) clock }))
        | none => some (.skip (m.set b { o with ext := .map (es ++ [(vk, vv, clock)]) (clock + 1) }))
      else none
noncomputable def xi_mapDel (P : Program) (ki : Bool) (x : Arg) (k : Arg) (e : Env) (m : Mem) : Option XR := (x.evF e).bindF fun vx => (k.evF e).bindF fun vk => if keyK ki vk then match vx with
      | .map none => some (.val (.tuple #[]) m)
      | vx => (mapRw m vx).bindF fun (b, o, es, clock) => (findK ki vk es 0).bindF fun r => match r with
        | some (i, _) => some (.val (.tuple #[]) (m.set b { o with ext := .map (es.eraseIdx i) clock }))
        | none => some (.val (.tuple #[]) (m.set b { o with ext := .map es clock }))
      else none
noncomputable def xi_mapClear (P : Program) (x : Arg) (e : Env) (m : Mem) : Option XR := (x.evF e).bindF fun vx => match vx with
      | .map none => some (.val (.tuple #[]) m)
      | vx => (mapRw m vx).bindF fun (b, o, _, clock) => some (.val (.tuple #[]) (m.set b { o with ext := .map [] clock }))
noncomputable def xi_mapLen (P : Program) (x : Arg) (e : Env) (m : Mem) : Option XR := (x.evF e).bindF fun vx => (mapEs m vx).bindF fun es => some (.val (goInt es.length) m)
noncomputable def xi_mapRange (P : Program) (x : Arg) (e : Env) (m : Mem) : Option XR := (x.evF e).bindF fun vx => match vx with
      | .map none => some (.val (.pointer (some ⟨m.next, 0, none⟩)) (m.pushQ { cells := [], rw := true, spare := none, kin := [], ext := .iter none 0 [] 0 }))
      | .map (some b) => match m.get b with
        | some o => match o.ext with
          | .map _ clock => some (.val (.pointer (some ⟨m.next, 0, none⟩)) (m.pushQ { cells := [], rw := true, spare := none, kin := [], ext := .iter (some b) clock [] clock }))
          | _ => none
        | none => none
      | _ => none
noncomputable def xi_mapNext (P : Program) (x : Arg) (e : Env) (m : Mem) : Option XR := (x.evF e).bindF fun vx => match vx with
      | .pointer (some ⟨b, 0, none⟩) => match m.get b with
        | some o => match o.ext with
          | .iter none _ _ _ => some (.val (.tuple #[.bool false]) m)
          | .iter (some mb) since seen last => match m.get mb with
            | some mo => match mo.ext with
              | .map es clock =>
                if o.rw = true ∧ o.spare.isNone = true ∧ o.kin.isEmpty = true then
                  if !seen.isEmpty && !es.isEmpty && es.all (fun x => decide (last ≤ x.2.2)) then none else
                  match es.filter (fun x => !seen.contains x.2.2) with
                  | [] => some (.val (.tuple #[.bool false]) m)
                  | [(k, v, born)] => if born < since then some (.val (.tuple #[.bool true, k, v]) (m.set b { o with ext := .iter (some mb) since (seen ++ [born]) clock })) else none
                  | _ => none
                else none
              | _ => none
            | none => none
          | _ => none
        | none => none
      | _ => none
noncomputable def xi_mapEntry (P : Program) (x : Arg) (e : Env) (m : Mem) : Option XR := (x.evF e).bindF fun vx => match vx with
      | .pointer (some ⟨b, 0, none⟩) => match m.get b with
        | some o => match o.ext with
          | .iter (some mb) _ seen last => match m.get mb with
            | some mo => match mo.ext with
              | .map es clock => if clock = last then seen.getLast?.bind fun born => (es.find? fun x => x.2.2 == born).bindF fun x => some (.val (.tuple #[x.1, x.2.1]) m) else none
              | _ => none
            | none => none
          | _ => none
        | none => none
      | _ => none
noncomputable def xi_makeIface (P : Program) (t : TypeId) (x : Arg) (e : Env) (m : Mem) : Option XR := (x.evF e).bindF fun v => if noTup v then some (.val (.iface t v) m) else none
noncomputable def xi_invoke (P : Program) (tab : List (TypeId × FuncId)) (x : Arg) (args : List Arg) (e : Env) (m : Mem) : Option XR := (x.evF e).bindF fun v => (evsF e args).bindF fun vs => match v with
    | .iface t r => (findT tab t).bindF fun f => some (.call f (r :: vs))
    | _ => none
noncomputable def xi_arrSlice (P : Program) (n : Nat) (x : Arg) (e : Env) (m : Mem) : Option XR := (x.evF e).bindF fun v => match v with
    | .pointer (some a) => if a.spot.isNone then some (.val (.slice (some ⟨a.block, a.off, none⟩) n n) m) else none
    | _ => none
noncomputable def xi_bstr (P : Program) (x : Arg) (e : Env) (m : Mem) : Option XR := (x.evF e).bindF fun v => (xlen v).bindF fun n => (xfirst m 1 n v).bindF fun cs => (byteL cs).bindF fun bs => match v with
    | .slice _ _ _ => some (.val (.string ⟨bs.toArray⟩) m)
    | _ => none
noncomputable def xi_move (P : Program) (x : Arg) (e : Env) (m : Mem) : Option XR := (x.evF e).bindF fun v => some (.val v m)
noncomputable def xi_pick (P : Program) (c : Arg) (a : Arg) (b : Arg) (e : Env) (m : Mem) : Option XR := (c.evF e).bindF fun vc => (a.evF e).bindF fun va => (b.evF e).bindF fun vb => match vc with
    | .bool t => some (.val (bif t then va else vb) m)
    | _ => none
noncomputable def xi_alloc (P : Program) (zero : List Value) (e : Env) (m : Mem) : Option XR := some (.val (xboxQ m zero).1 (xboxQ m zero).2)
noncomputable def xi_box (P : Program) (x : Arg) (e : Env) (m : Mem) : Option XR := (x.evF e).bindF fun v => if noTup v then some (.val (xboxQ m v.cells.toList).1 (xboxQ m v.cells.toList).2) else none
noncomputable def xi_build (P : Program) (zero : List Value) (places : List (Nat × Nat)) (parts : List (Nat × Arg)) (e : Env) (m : Mem) : Option XR := (xpartsF e parts).bindF fun vs =>
    (Instr.fill (places[·]?) zero.toArray vs).bindF fun cs => some (.val (.agg cs) m)
noncomputable def xi_buildArr (P : Program) (zero : List Value) (size : Nat) (parts : List (Nat × Arg)) (e : Env) (m : Mem) : Option XR := (xpartsF e parts).bindF fun vs =>
    (Instr.fill (fun i => some (i * size, size)) zero.toArray vs).bindF fun cs => some (.val (.agg cs) m)
noncomputable def xi_buildSlice (P : Program) (zero : List Value) (size : Nat) (len : Nat) (parts : List (Nat × Arg)) (e : Env) (m : Mem) : Option XR := (xpartsF e parts).bindF fun vs =>
    if len * size ≤ 16777216 ∧ zero.length = size then
      (Instr.fill (fun i => some (i * size, size)) (zerosOf zero len).toArray vs).bindF fun cs =>
      some (.val (.slice (some ⟨m.next, 0, none⟩) len len) (m.pushQ { cells := cs.toList, rw := true, spare := none, kin := [] }))
    else none
noncomputable def xi_load (P : Program) (agg : Bool) (size : Nat) (a : Arg) (e : Env) (m : Mem) : Option XR := (a.evF e).bindF fun v => match v with
    | .pointer (some a) => (xloadQ m a size).bindF fun cs => match agg, cs with
      | true, cs => some (.val (.agg cs.toArray) m)
      | false, [v] => some (.val v m)
      | false, _ => none
    | _ => none
noncomputable def xi_store (P : Program) (size : Nat) (a : Arg) (x : Arg) (e : Env) (m : Mem) : Option XR := (a.evF e).bindF fun va => (x.evF e).bindF fun vx => match va with
    | .pointer (some a) =>
      if vx.cells.size = size ∧ noTup vx = true then
        if size = 0 then some (.skip m) else (xstoreQ m a vx.cells.toList).bindF fun m' => some (.skip m')
      else none
    | _ => none
noncomputable def xi_nilCheck (P : Program) (x : Arg) (e : Env) (m : Mem) : Option XR := (x.evF e).bindF fun v => match v with
    | .pointer (some _) => some (.val v m)
    | .func (.func _) _ _ => some (.val v m)
    | .iface _ _ => some (.val v m)
    | _ => none
noncomputable def xi_bin (P : Program) (op : BinOp) (t : TypeId) (x : Arg) (y : Arg) (e : Env) (m : Mem) : Option XR := (x.evF e).bindF fun vx => (y.evF e).bindF fun vy =>
    if plain vx && plain vy then (ans P (do eqGuard op t (.const vx) (.const vy) vx vy; binOp op t vx vy)).bindF fun v => if plain v then some (.val v m) else none
    else none
noncomputable def xi_isNil (P : Program) (k : NK) (neg : Bool) (x : Arg) (e : Env) (m : Mem) : Option XR := (x.evF e).bindF fun v => match k, v with
    | .ptr, .pointer p => some (.val (.bool (p.isNone != neg)) m)
    | .slice, .slice p _ _ => some (.val (.bool (p.isNone != neg)) m)
    | .map, .map p => some (.val (.bool (p.isNone != neg)) m)
    | .func, .nilFunc => some (.val (.bool (!neg)) m)
    | .func, .func _ _ _ => some (.val (.bool neg) m)
    | .iface, .nilIface => some (.val (.bool (!neg)) m)
    | .iface, .iface _ _ => some (.val (.bool neg) m)
    | _, _ => none
noncomputable def xi_un (P : Program) (op : UnOp) (x : Arg) (e : Env) (m : Mem) : Option XR := (x.evF e).bindF fun v => if plain v then (ans P (Op.unary op v)).bindF fun r => if plain r then some (.val r m) else none else none
noncomputable def xi_conv (P : Program) (src : TypeId) (dst : TypeId) (x : Arg) (e : Env) (m : Mem) : Option XR := (x.evF e).bindF fun v => if plain v then (ans P (convert src dst v)).bindF fun r => if plain r then some (.val r m) else none else none
noncomputable def xi_fieldAddr (P : Program) (off : Nat) (x : Arg) (e : Env) (m : Mem) : Option XR := (x.evF e).bindF fun v => match v with
    | .pointer (some a) => if a.spot.isNone then some (.val (.pointer (some ⟨a.block, a.off + off, none⟩)) m) else none
    | _ => none
noncomputable def xi_field (P : Program) (agg : Bool) (off : Nat) (size : Nat) (x : Arg) (e : Env) (m : Mem) : Option XR := (x.evF e).bindF fun v => match v with
    | .agg cs => match agg with
      | true => some (.val (.agg (cs.extract off (off + size))) m)
      | false => (cs[off]?).bindF fun c => some (.val c m)
    | _ => none
noncomputable def xi_indexAddr (P : Program) (size : Nat) (x : Arg) (i : Arg) (e : Env) (m : Mem) : Option XR := (x.evF e).bindF fun v => (i.evF e).bindF fun vi => match v with
    | .slice (some a) len _ => (asNat vi).bindF fun j => if j < len then some (.val (.pointer (some ⟨a.block, a.off + j * size, none⟩)) m) else none
    | _ => none
noncomputable def xi_indexAddrArr (P : Program) (n : Nat) (size : Nat) (x : Arg) (i : Arg) (e : Env) (m : Mem) : Option XR := (x.evF e).bindF fun v => (i.evF e).bindF fun vi => match v with
    | .pointer (some a) => (asNat vi).bindF fun j => if j < n ∧ a.spot.isNone then some (.val (.pointer (some ⟨a.block, a.off + j * size, none⟩)) m) else none
    | _ => none
noncomputable def xi_index (P : Program) (t : TypeId) (x : Arg) (i : Arg) (e : Env) (m : Mem) : Option XR := (x.evF e).bindF fun v => (i.evF e).bindF fun vi =>
    if plain v && plain vi then (ans P (Instr.index t v vi)).bindF fun r => if plain r then some (.val r m) else none else none
noncomputable def xi_slice (P : Program) (size : Nat) (x : Arg) (lo : Option Arg) (hi : Option Arg) (mx : Option Arg) (e : Env) (m : Mem) : Option XR := (x.evF e).bindF fun v => (evOF e lo).bindF fun l => (evOF e hi).bindF fun h => (evOF e mx).bindF fun k => match v with
    | .slice p len cap => (xbounds len cap l h k).bindF fun b => (xsliceR m size p b.1 b.2.1 b.2.2 k.isSome).bindF fun r => some (.val r m)
    | _ => none
noncomputable def xi_substr (P : Program) (t : TypeId) (x : Arg) (lo : Option Arg) (hi : Option Arg) (e : Env) (m : Mem) : Option XR := (x.evF e).bindF fun v => (evOF e lo).bindF fun l => (evOF e hi).bindF fun h =>
    match v with
    | .string _ => if (match l with | none => true | some v => plainV v) && (match h with | none => true | some v => plainV v) then
        (ans P (Instr.slice t v l h none)).bindF fun r => if plain r then some (.val r m) else none else none
    | _ => none
noncomputable def xi_makeSlice (P : Program) (zero : List Value) (bytes : Nat) (l : Arg) (c : Arg) (e : Env) (m : Mem) : Option XR := (l.evF e).bindF fun vl => (c.evF e).bindF fun vc => (asNat vl).bindF fun l => (asNat vc).bindF fun c =>
    if l ≤ c ∧ bytes * c ≤ 281474976710656 ∧ c ≤ 9223372036854775807 then
      some (.val (.slice (some ⟨m.next, 0, none⟩) l c) (m.pushQ { cells := zerosOf zero c, rw := true, spare := none, kin := [] }))
    else none
noncomputable def xi_makeFunc (P : Program) (fn : Fn) (first : List Arg) (captured : List Arg) (e : Env) (m : Mem) : Option XR := (evsF e first).bindF fun f => (evsF e captured).bindF fun c => if f.all noTup && c.all noTup then some (.val (.func fn f.toArray c.toArray) m) else none
noncomputable def xi_extract (P : Program) (x : Arg) (i : Nat) (e : Env) (m : Mem) : Option XR := (x.evF e).bindF fun v => match v with
    | .tuple vs => (vs[i]?).bindF fun v => some (.val v m)
    | _ => none
noncomputable def xi_call (P : Program) (f : Arg) (args : List Arg) (e : Env) (m : Mem) : Option XR := (f.evF e).bindF fun vf => (evsF e args).bindF fun vs => match vf with
    | .func (.func f) first captured => some (.call f (first.toList ++ vs ++ captured.toList))
    | _ => none
noncomputable def xi_append (P : Program) (size : Nat) (bytes : Nat) (zero : List Value) (s : Arg) (x : Arg) (e : Env) (m : Mem) : Option XR := (s.evF e).bindF fun vs => (x.evF e).bindF fun vx => (xlen vx).bindF fun n => (xfirst m size n vx).bindF fun new =>
    if zero.length = size then (xappend m size bytes vs n new).bindF fun (v, m') => some (.val v m') else none
noncomputable def xi_appendZeros (P : Program) (size : Nat) (bytes : Nat) (zero : List Value) (s : Arg) (x : Arg) (e : Env) (m : Mem) : Option XR := (s.evF e).bindF fun vs => (x.evF e).bindF fun vx => (asNat vx).bindF fun n =>
    if zero.length = size ∧ n ≤ 9223372036854775807 ∧ n * bytes ≤ 281474976710656 ∧ bytes ≠ 0 then (xappend m size bytes vs n (zerosOf zero n)).bindF fun (v, m') => some (.val v m') else none
noncomputable def xi_copy (P : Program) (size : Nat) (d : Arg) (s : Arg) (e : Env) (m : Mem) : Option XR := (d.evF e).bindF fun vd => (s.evF e).bindF fun vs => match vd with
    | .slice p dl _ => (xlen vs).bindF fun sl =>
      let n := Nat.min sl dl
      (xfirst m size n vs).bindF fun cs =>
        match p with
        | none => some (.val (goInt n) m)
        | some a => if n * size = 0 then some (.val (goInt n) m) else (xstoreQ m ⟨a.block, a.off, none⟩ cs).bindF fun m' => some (.val (goInt n) m')
    | _ => none
noncomputable def xi_clear (P : Program) (zero : List Value) (x : Arg) (e : Env) (m : Mem) : Option XR := (x.evF e).bindF fun v => match v with
    | .slice none _ _ => some (.val (.tuple #[]) m)
    | .slice (some a) n _ =>
      if n = 0 then some (.val (.tuple #[]) m) else
      if zero.length = 0 then none else
      (xstoreQ m ⟨a.block, a.off, none⟩ (zerosOf zero n)).bindF fun m' => some (.val (.tuple #[]) m')
    | _ => none
noncomputable def xi_len (P : Program) (x : Arg) (e : Env) (m : Mem) : Option XR := (x.evF e).bindF fun v => match v with
    | .slice _ n _ => some (.val (goInt n) m)
    | _ => none
noncomputable def xi_cap (P : Program) (x : Arg) (e : Env) (m : Mem) : Option XR := (x.evF e).bindF fun v => match v with
    | .slice none _ c => some (.val (goInt c) m)
    | .slice (some a) _ c => match a.spot with
      | some 0 => none
      | _ => some (.val (goInt c) m)
    | _ => none
noncomputable def xi_calcB (P : Program) (b : Builtin) (ts : List TypeId) (t : TypeId) (args : List Arg) (e : Env) (m : Mem) : Option XR := (evsF e args).bindF fun vs =>
    if vs.all plain then (ans P (builtin b ts.toArray t (args.map fun _ => false).toArray vs.toArray)).bindF fun nx => match nx with
      | .value v => if plain v then some (.val v m) else none
      | _ => none
    else none

noncomputable def cI (P : Program) : XI → OpR
  | .fail  => ⟨xi_fail P ⟩
  | .dfr a0 => ⟨xi_dfr P a0⟩
  | .dfrc a0 => ⟨xi_dfrc P a0⟩
  | .makeMap  => ⟨xi_makeMap P ⟩
  | .lookup a0 a1 a2 a3 a4 => ⟨xi_lookup P a0 a1 a2 a3 a4⟩
  | .mapUpdate a0 a1 a2 a3 => ⟨xi_mapUpdate P a0 a1 a2 a3⟩
  | .mapDel a0 a1 a2 => ⟨xi_mapDel P a0 a1 a2⟩
  | .mapClear a0 => ⟨xi_mapClear P a0⟩
  | .mapLen a0 => ⟨xi_mapLen P a0⟩
  | .mapRange a0 => ⟨xi_mapRange P a0⟩
  | .mapNext a0 => ⟨xi_mapNext P a0⟩
  | .mapEntry a0 => ⟨xi_mapEntry P a0⟩
  | .makeIface a0 a1 => ⟨xi_makeIface P a0 a1⟩
  | .invoke a0 a1 a2 => ⟨xi_invoke P a0 a1 a2⟩
  | .arrSlice a0 a1 => ⟨xi_arrSlice P a0 a1⟩
  | .bstr a0 => ⟨xi_bstr P a0⟩
  | .move a0 => ⟨xi_move P a0⟩
  | .pick a0 a1 a2 => ⟨xi_pick P a0 a1 a2⟩
  | .alloc a0 => ⟨xi_alloc P a0⟩
  | .box a0 => ⟨xi_box P a0⟩
  | .build a0 a1 a2 => ⟨xi_build P a0 a1 a2⟩
  | .buildArr a0 a1 a2 => ⟨xi_buildArr P a0 a1 a2⟩
  | .buildSlice a0 a1 a2 a3 => ⟨xi_buildSlice P a0 a1 a2 a3⟩
  | .load a0 a1 a2 => ⟨xi_load P a0 a1 a2⟩
  | .store a0 a1 a2 => ⟨xi_store P a0 a1 a2⟩
  | .nilCheck a0 => ⟨xi_nilCheck P a0⟩
  | .bin a0 a1 a2 a3 => ⟨xi_bin P a0 a1 a2 a3⟩
  | .isNil a0 a1 a2 => ⟨xi_isNil P a0 a1 a2⟩
  | .un a0 a1 => ⟨xi_un P a0 a1⟩
  | .conv a0 a1 a2 => ⟨xi_conv P a0 a1 a2⟩
  | .fieldAddr a0 a1 => ⟨xi_fieldAddr P a0 a1⟩
  | .field a0 a1 a2 a3 => ⟨xi_field P a0 a1 a2 a3⟩
  | .indexAddr a0 a1 a2 => ⟨xi_indexAddr P a0 a1 a2⟩
  | .indexAddrArr a0 a1 a2 a3 => ⟨xi_indexAddrArr P a0 a1 a2 a3⟩
  | .index a0 a1 a2 => ⟨xi_index P a0 a1 a2⟩
  | .slice a0 a1 a2 a3 a4 => ⟨xi_slice P a0 a1 a2 a3 a4⟩
  | .substr a0 a1 a2 a3 => ⟨xi_substr P a0 a1 a2 a3⟩
  | .makeSlice a0 a1 a2 a3 => ⟨xi_makeSlice P a0 a1 a2 a3⟩
  | .makeFunc a0 a1 a2 => ⟨xi_makeFunc P a0 a1 a2⟩
  | .extract a0 a1 => ⟨xi_extract P a0 a1⟩
  | .call a0 a1 => ⟨xi_call P a0 a1⟩
  | .append a0 a1 a2 a3 a4 => ⟨xi_append P a0 a1 a2 a3 a4⟩
  | .appendZeros a0 a1 a2 a3 a4 => ⟨xi_appendZeros P a0 a1 a2 a3 a4⟩
  | .copy a0 a1 a2 => ⟨xi_copy P a0 a1 a2⟩
  | .clear a0 a1 => ⟨xi_clear P a0 a1⟩
  | .len a0 => ⟨xi_len P a0⟩
  | .cap a0 => ⟨xi_cap P a0⟩
  | .calcB a0 a1 a2 a3 => ⟨xi_calcB P a0 a1 a2 a3⟩
theorem cI_run {P : Program} {e : Env} {m : Mem} (i : XI) : (cI P i).run e m = xi P e m i := by
  cases i

  case fail => simp only [cI, xi_fail, xi, evF_eq, evsF_eq, evOF_eq, xpartsF_eq, xloadQ_eq, xstoreQ_eq, xboxQ_eq, pushQ_eq, bindF_eq] <;> rfl
  case dfr => simp only [cI, xi_dfr, xi, evF_eq, evsF_eq, evOF_eq, xpartsF_eq, xloadQ_eq, xstoreQ_eq, xboxQ_eq, pushQ_eq, bindF_eq] <;> rfl
  case dfrc => simp only [cI, xi_dfrc, xi, evF_eq, evsF_eq, evOF_eq, xpartsF_eq, xloadQ_eq, xstoreQ_eq, xboxQ_eq, pushQ_eq, bindF_eq] <;> rfl
  case makeMap => simp only [cI, xi_makeMap, xi, evF_eq, evsF_eq, evOF_eq, xpartsF_eq, xloadQ_eq, xstoreQ_eq, xboxQ_eq, pushQ_eq, bindF_eq] <;> rfl
  case lookup => simp only [cI, xi_lookup, xi, evF_eq, evsF_eq, evOF_eq, xpartsF_eq, xloadQ_eq, xstoreQ_eq, xboxQ_eq, pushQ_eq, bindF_eq] <;> rfl
  case mapUpdate => simp only [cI, xi_mapUpdate, xi, evF_eq, evsF_eq, evOF_eq, xpartsF_eq, xloadQ_eq, xstoreQ_eq, xboxQ_eq, pushQ_eq, bindF_eq] <;> rfl
  case mapDel => simp only [cI, xi_mapDel, xi, evF_eq, evsF_eq, evOF_eq, xpartsF_eq, xloadQ_eq, xstoreQ_eq, xboxQ_eq, pushQ_eq, bindF_eq] <;> rfl
  case mapClear => simp only [cI, xi_mapClear, xi, evF_eq, evsF_eq, evOF_eq, xpartsF_eq, xloadQ_eq, xstoreQ_eq, xboxQ_eq, pushQ_eq, bindF_eq] <;> rfl
  case mapLen => simp only [cI, xi_mapLen, xi, evF_eq, evsF_eq, evOF_eq, xpartsF_eq, xloadQ_eq, xstoreQ_eq, xboxQ_eq, pushQ_eq, bindF_eq] <;> rfl
  case mapRange => simp only [cI, xi_mapRange, xi, evF_eq, evsF_eq, evOF_eq, xpartsF_eq, xloadQ_eq, xstoreQ_eq, xboxQ_eq, pushQ_eq, bindF_eq] <;> rfl
  case mapNext => simp only [cI, xi_mapNext, xi, evF_eq, evsF_eq, evOF_eq, xpartsF_eq, xloadQ_eq, xstoreQ_eq, xboxQ_eq, pushQ_eq, bindF_eq] <;> rfl
  case mapEntry => simp only [cI, xi_mapEntry, xi, evF_eq, evsF_eq, evOF_eq, xpartsF_eq, xloadQ_eq, xstoreQ_eq, xboxQ_eq, pushQ_eq, bindF_eq] <;> rfl
  case makeIface => simp only [cI, xi_makeIface, xi, evF_eq, evsF_eq, evOF_eq, xpartsF_eq, xloadQ_eq, xstoreQ_eq, xboxQ_eq, pushQ_eq, bindF_eq] <;> rfl
  case invoke => simp only [cI, xi_invoke, xi, evF_eq, evsF_eq, evOF_eq, xpartsF_eq, xloadQ_eq, xstoreQ_eq, xboxQ_eq, pushQ_eq, bindF_eq] <;> rfl
  case arrSlice => simp only [cI, xi_arrSlice, xi, evF_eq, evsF_eq, evOF_eq, xpartsF_eq, xloadQ_eq, xstoreQ_eq, xboxQ_eq, pushQ_eq, bindF_eq] <;> rfl
  case bstr => simp only [cI, xi_bstr, xi, evF_eq, evsF_eq, evOF_eq, xpartsF_eq, xloadQ_eq, xstoreQ_eq, xboxQ_eq, pushQ_eq, bindF_eq] <;> rfl
  case move => simp only [cI, xi_move, xi, evF_eq, evsF_eq, evOF_eq, xpartsF_eq, xloadQ_eq, xstoreQ_eq, xboxQ_eq, pushQ_eq, bindF_eq] <;> rfl
  case pick => simp only [cI, xi_pick, xi, evF_eq, evsF_eq, evOF_eq, xpartsF_eq, xloadQ_eq, xstoreQ_eq, xboxQ_eq, pushQ_eq, bindF_eq] <;> rfl
  case alloc => simp only [cI, xi_alloc, xi, evF_eq, evsF_eq, evOF_eq, xpartsF_eq, xloadQ_eq, xstoreQ_eq, xboxQ_eq, pushQ_eq, bindF_eq] <;> rfl
  case box => simp only [cI, xi_box, xi, evF_eq, evsF_eq, evOF_eq, xpartsF_eq, xloadQ_eq, xstoreQ_eq, xboxQ_eq, pushQ_eq, bindF_eq] <;> rfl
  case build => simp only [cI, xi_build, xi, evF_eq, evsF_eq, evOF_eq, xpartsF_eq, xloadQ_eq, xstoreQ_eq, xboxQ_eq, pushQ_eq, bindF_eq] <;> rfl
  case buildArr => simp only [cI, xi_buildArr, xi, evF_eq, evsF_eq, evOF_eq, xpartsF_eq, xloadQ_eq, xstoreQ_eq, xboxQ_eq, pushQ_eq, bindF_eq] <;> rfl
  case buildSlice => simp only [cI, xi_buildSlice, xi, evF_eq, evsF_eq, evOF_eq, xpartsF_eq, xloadQ_eq, xstoreQ_eq, xboxQ_eq, pushQ_eq, bindF_eq] <;> rfl
  case load => simp only [cI, xi_load, xi, evF_eq, evsF_eq, evOF_eq, xpartsF_eq, xloadQ_eq, xstoreQ_eq, xboxQ_eq, pushQ_eq, bindF_eq] <;> rfl
  case store => simp only [cI, xi_store, xi, evF_eq, evsF_eq, evOF_eq, xpartsF_eq, xloadQ_eq, xstoreQ_eq, xboxQ_eq, pushQ_eq, bindF_eq] <;> rfl
  case nilCheck => simp only [cI, xi_nilCheck, xi, evF_eq, evsF_eq, evOF_eq, xpartsF_eq, xloadQ_eq, xstoreQ_eq, xboxQ_eq, pushQ_eq, bindF_eq] <;> rfl
  case bin => simp only [cI, xi_bin, xi, evF_eq, evsF_eq, evOF_eq, xpartsF_eq, xloadQ_eq, xstoreQ_eq, xboxQ_eq, pushQ_eq, bindF_eq] <;> rfl
  case isNil => simp only [cI, xi_isNil, xi, evF_eq, evsF_eq, evOF_eq, xpartsF_eq, xloadQ_eq, xstoreQ_eq, xboxQ_eq, pushQ_eq, bindF_eq] <;> rfl
  case un => simp only [cI, xi_un, xi, evF_eq, evsF_eq, evOF_eq, xpartsF_eq, xloadQ_eq, xstoreQ_eq, xboxQ_eq, pushQ_eq, bindF_eq] <;> rfl
  case conv => simp only [cI, xi_conv, xi, evF_eq, evsF_eq, evOF_eq, xpartsF_eq, xloadQ_eq, xstoreQ_eq, xboxQ_eq, pushQ_eq, bindF_eq] <;> rfl
  case fieldAddr => simp only [cI, xi_fieldAddr, xi, evF_eq, evsF_eq, evOF_eq, xpartsF_eq, xloadQ_eq, xstoreQ_eq, xboxQ_eq, pushQ_eq, bindF_eq] <;> rfl
  case field => simp only [cI, xi_field, xi, evF_eq, evsF_eq, evOF_eq, xpartsF_eq, xloadQ_eq, xstoreQ_eq, xboxQ_eq, pushQ_eq, bindF_eq] <;> rfl
  case indexAddr => simp only [cI, xi_indexAddr, xi, evF_eq, evsF_eq, evOF_eq, xpartsF_eq, xloadQ_eq, xstoreQ_eq, xboxQ_eq, pushQ_eq, bindF_eq] <;> rfl
  case indexAddrArr => simp only [cI, xi_indexAddrArr, xi, evF_eq, evsF_eq, evOF_eq, xpartsF_eq, xloadQ_eq, xstoreQ_eq, xboxQ_eq, pushQ_eq, bindF_eq] <;> rfl
  case index => simp only [cI, xi_index, xi, evF_eq, evsF_eq, evOF_eq, xpartsF_eq, xloadQ_eq, xstoreQ_eq, xboxQ_eq, pushQ_eq, bindF_eq] <;> rfl
  case slice => simp only [cI, xi_slice, xi, evF_eq, evsF_eq, evOF_eq, xpartsF_eq, xloadQ_eq, xstoreQ_eq, xboxQ_eq, pushQ_eq, bindF_eq] <;> rfl
  case substr => simp only [cI, xi_substr, xi, evF_eq, evsF_eq, evOF_eq, xpartsF_eq, xloadQ_eq, xstoreQ_eq, xboxQ_eq, pushQ_eq, bindF_eq] <;> rfl
  case makeSlice => simp only [cI, xi_makeSlice, xi, evF_eq, evsF_eq, evOF_eq, xpartsF_eq, xloadQ_eq, xstoreQ_eq, xboxQ_eq, pushQ_eq, bindF_eq] <;> rfl
  case makeFunc => simp only [cI, xi_makeFunc, xi, evF_eq, evsF_eq, evOF_eq, xpartsF_eq, xloadQ_eq, xstoreQ_eq, xboxQ_eq, pushQ_eq, bindF_eq] <;> rfl
  case extract => simp only [cI, xi_extract, xi, evF_eq, evsF_eq, evOF_eq, xpartsF_eq, xloadQ_eq, xstoreQ_eq, xboxQ_eq, pushQ_eq, bindF_eq] <;> rfl
  case call => simp only [cI, xi_call, xi, evF_eq, evsF_eq, evOF_eq, xpartsF_eq, xloadQ_eq, xstoreQ_eq, xboxQ_eq, pushQ_eq, bindF_eq] <;> rfl
  case append => simp only [cI, xi_append, xi, evF_eq, evsF_eq, evOF_eq, xpartsF_eq, xloadQ_eq, xstoreQ_eq, xboxQ_eq, pushQ_eq, bindF_eq] <;> rfl
  case appendZeros => simp only [cI, xi_appendZeros, xi, evF_eq, evsF_eq, evOF_eq, xpartsF_eq, xloadQ_eq, xstoreQ_eq, xboxQ_eq, pushQ_eq, bindF_eq] <;> rfl
  case copy => simp only [cI, xi_copy, xi, evF_eq, evsF_eq, evOF_eq, xpartsF_eq, xloadQ_eq, xstoreQ_eq, xboxQ_eq, pushQ_eq, bindF_eq] <;> rfl
  case clear => simp only [cI, xi_clear, xi, evF_eq, evsF_eq, evOF_eq, xpartsF_eq, xloadQ_eq, xstoreQ_eq, xboxQ_eq, pushQ_eq, bindF_eq] <;> rfl
  case len => simp only [cI, xi_len, xi, evF_eq, evsF_eq, evOF_eq, xpartsF_eq, xloadQ_eq, xstoreQ_eq, xboxQ_eq, pushQ_eq, bindF_eq] <;> rfl
  case cap => simp only [cI, xi_cap, xi, evF_eq, evsF_eq, evOF_eq, xpartsF_eq, xloadQ_eq, xstoreQ_eq, xboxQ_eq, pushQ_eq, bindF_eq] <;> rfl
  case calcB => simp only [cI, xi_calcB, xi, evF_eq, evsF_eq, evOF_eq, xpartsF_eq, xloadQ_eq, xstoreQ_eq, xboxQ_eq, pushQ_eq, bindF_eq] <;> rfl


section
variable (P : Program) (C : FuncId → List Value → Mem → Option (Value × Mem))
noncomputable def dfrF (K : Env → Mem → Option (Env × Mem)) (dst : Option Nat) (e : Env) (m : Mem) : XI → Option (Env × Mem)
  | .dfr as => match evs e as with
    | some _ => K (put dst undef e) m
    | none => none
  | .dfrc x => match x.ev e, look e slotD with
    | some v, some .nilFunc => if cloB v then K (put dst undef ((slotD, v) :: e)) m else none
    | _, _ => none
  | _ => none
noncomputable def callK (K : Env → Mem → Option (Env × Mem)) (dst : Option Nat) (e : Env) : Option (Value × Mem) → Option (Env × Mem)
  | none => none
  | some (v, m') => K (put dst v e) m'
noncomputable def doR (K : Env → Mem → Option (Env × Mem)) (dst : Option Nat) (e : Env) (m : Mem) : XR → Option (Env × Mem)
  | .val v m' => K (put dst v e) m'
  | .skip m' => K (put dst undef e) m'
  | .call f args => callK K dst e (C f args m)
noncomputable def resO (K : Env → Mem → Option (Env × Mem)) (o : XOp) (e : Env) (m : Mem) : Option XR → Option (Env × Mem)
  | none => dfrF K o.dst e m o.i
  | some r => doR C K o.dst e m r
noncomputable def stepO (K : Env → Mem → Option (Env × Mem)) (o : XOp) (e : Env) (m : Mem) : Option Bool → Option (Env × Mem)
  | none => none
  | some false => K (put o.dst undef e) m
  | some true => resO C K o e m ((cI P o.i).run e m)
structure OpS where
  go : (FuncId → List Value → Mem → Option (Value × Mem)) → (Env → Mem → Option (Env × Mem)) → Env → Mem → Option (Env × Mem)
noncomputable def moveS (K : Env → Mem → Option (Env × Mem)) (d : Nat) (m : Mem) (e : Env) (o : Option Value) : Option (Env × Mem) := Option.rec none (fun v => K ((d, v) :: e) m) o
noncomputable def moveA (d : Nat) : Arg → OpS
  | .t s => ⟨fun _ K e m => moveS K d m e (lookF e s)⟩
  | .c v => ⟨fun _ K e m => K ((d, v) :: e) m⟩
noncomputable def resR (C : FuncId → List Value → Mem → Option (Value × Mem)) (K : Env → Mem → Option (Env × Mem)) (d : Nat) (i : XI) (e : Env) (m : Mem) (x : Option XR) : Option (Env × Mem) :=
  Option.rec (dfrF K (some d) e m i) (fun r => XR.rec (fun v m' => K ((d, v) :: e) m') (fun m' => K ((d, undef) :: e) m') (fun f args => callK K (some d) e (C f args m)) r) x
noncomputable def cD (P : Program) (d : Nat) : XI → OpS
  | .move x => moveA d x
  | i => ⟨fun C K e m => resR C K d i e m ((cI P i).run e m)⟩
noncomputable def cU (P : Program) (i : XI) : Option Nat → OpS
  | some d => cD P d i
  | none => ⟨fun C K e m => resO C K ⟨none, none, i⟩ e m ((cI P i).run e m)⟩
noncomputable def cG (P : Program) (dst : Option Nat) (i : XI) : Option (Nat × Bool) → OpS
  | none => cU P i dst
  | some g => ⟨fun C K e m => stepO P C K ⟨dst, some g, i⟩ e m (wantedF e (some g))⟩
noncomputable def cO (P : Program) (o : XOp) : OpS := cG P o.dst o.i o.guard
theorem resR_eq {C : FuncId → List Value → Mem → Option (Value × Mem)} {K : Env → Mem → Option (Env × Mem)} {d : Nat} {i : XI} {e : Env} {m : Mem} {x : Option XR} {g : Option (Nat × Bool)} : resR C K d i e m x = resO C K ⟨some d, g, i⟩ e m x := by
  cases x with
  | none => rfl
  | some r => cases r <;> rfl
theorem cO_go {P : Program} {C : FuncId → List Value → Mem → Option (Value × Mem)} {K : Env → Mem → Option (Env × Mem)} (o : XOp) (e : Env) (m : Mem) : (cO P o).go C K e m = stepO P C K o e m (wantedX e o.guard) := by
  obtain ⟨dst, g, i⟩ := o
  cases g with
  | some g => simp only [cO, cG, wantedF_eq]
  | none => cases dst with
    | none => rfl
    | some d =>
      show (cD P d i).go C K e m = resO C K ⟨some d, none, i⟩ e m ((cI P i).run e m)
      have key : ∀ x, resR C K d i e m x = resO C K ⟨some d, none, i⟩ e m x := fun x => resR_eq
      have key2 := key ((cI P i).run e m)
      cases i with
      | move x =>
        rw [cI_run]
        cases x with
        | t s => simp only [cD, moveA, moveS, lookF_eq, xi, Arg.ev]; cases look e s <;> rfl
        | c v => rfl
      | _ => exact key2
noncomputable def xopsF (l : List XOp) : Env → Mem → Option (Env × Mem) :=
  List.rec (fun e m => some (e, m)) (fun o _ ih e m => (cO P o).go C ih e m) l
theorem xopsF_eq : ∀ (l : List XOp) (e : Env) (m : Mem), xopsF P C l e m = xops P C l e m
  | [], _, _ => rfl
  | o :: os, e, m => by
    have ih : xopsF P C os = xops P C os := funext fun e => funext fun m => xopsF_eq os e m
    show (cO P o).go C (xopsF P C os) e m = _
    rw [ih, cO_go]
    simp only [xops]
    cases wantedX e o.guard with
    | none => rfl
    | some b => cases b with
      | false => rfl
      | true =>
        simp only [stepO]
        rw [cI_run]
        cases xi P e m o.i with
        | none =>
          simp only [resO]
          generalize o.i = i
          cases i <;> rfl
        | some r => cases r with
          | val v m' => rfl
          | skip m' => rfl
          | call f args => simp only [resO, doR]; cases C f args m <;> rfl

noncomputable def againF (m : Mem) (l : List Pend) : Bool :=
  l.all fun p => match (cI P p.i).run p.e m with
    | some (.val v _) => veq p.v v
    | _ => false
theorem againF_eq (m : Mem) (l : List Pend) : againF P m l = again P m l := by
  simp only [againF, again, cI_run]
  congr 1
structure ClsR where
  k : Nat
noncomputable def clsF (i : XI) : ClsR := match cls i with | 0 => ⟨0⟩ | 1 => ⟨1⟩ | 2 => ⟨2⟩ | _ => ⟨3⟩
abbrev Kd := List Pend → Env → Mem → Option (Env × Mem)
noncomputable def outD (K : Kd) (pend : List Pend) (dst : Option Nat) (e : Env) : Option (Value × Mem) → Option (Env × Mem)
  | some (v, m') => K pend (put dst v e) m'
  | none => none
noncomputable def val0 (K : Kd) (pend : List Pend) (dst : Option Nat) (e : Env) (m : Mem) : Option XR → Option (Env × Mem)
  | some (.val v _) => K pend (put dst v e) m
  | _ => none
noncomputable def val1 (K : Kd) (pend : List Pend) (j : Nat) (o : XOp) (e : Env) (m : Mem) : Option XR → Option (Env × Mem)
  | some (.val v _) => K (⟨j, e, o.i, v⟩ :: pend) (put o.dst v e) m
  | _ => none
noncomputable def val2 (K : Kd) (pend : List Pend) (dst : Option Nat) (e : Env) : Option XR → Option (Env × Mem)
  | some (.val v m') => K pend (put dst v e) m'
  | _ => none
noncomputable def eff (K : Kd) (pend : List Pend) (pre : Nat) (o : XOp) (e : Env) (m : Mem) : Option (Env × Mem) :=
  if againF P m pend then outD K (pend.filter fun p => !pre.testBit p.j) o.dst e (outOf C m ((cI P o.i).run e m)) else none
noncomputable def doD (K : Kd) (pend : List Pend) (j pre : Nat) (o : XOp) (e : Env) (m : Mem) : Nat → Option (Env × Mem)
  | 0 => val0 K pend o.dst e m ((cI P o.i).run e m)
  | 1 => val1 K pend j o e m ((cI P o.i).run e m)
  | 2 => val2 K pend o.dst e ((cI P o.i).run e m)
  | _ => eff P C K pend pre o e m
noncomputable def skipD (K : Kd) (pend : List Pend) (pre : Nat) (o : XOp) (e : Env) (m : Mem) : Option (Env × Mem) :=
  if cls o.i = 3 then
    if againF P m pend then K (pend.filter fun p => !pre.testBit p.j) (put o.dst undef e) m else none
  else K pend (put o.dst undef e) m
noncomputable def stepD (K : Kd) (pend : List Pend) (j pre : Nat) (o : XOp) (e : Env) (m : Mem) : Option Bool → Option (Env × Mem)
  | none => none
  | some false => skipD P K pend pre o e m
  | some true => doD P C K pend j pre o e m (cls o.i)
noncomputable def xopsDF : List (Nat × Nat × XOp) → List Pend → Env → Mem → Option (Env × Mem)
  | [], pend, e, m => if againF P m pend then some (e, m) else none
  | (j, pre, o) :: os, pend, e, m => stepD P C (fun p e m => xopsDF os p e m) pend j pre o e m (wantedF e o.guard)
theorem xopsDF_eq : ∀ (l : List (Nat × Nat × XOp)) (p : List Pend) (e : Env) (m : Mem), xopsDF P C l p e m = xopsD P C l p e m
  | [], p, e, m => by simp only [xopsDF, xopsD, againF_eq]
  | (j, pre, o) :: os, p, e, m => by
    have ih : (fun p e m => xopsDF P C os p e m) = xopsD P C os := funext fun p => funext fun e => funext fun m => xopsDF_eq os p e m
    simp only [xopsDF, xopsD, wantedF_eq]
    rw [ih]
    cases wantedX e o.guard with
    | none => rfl
    | some b => cases b with
      | false => simp only [stepD, skipD, againF_eq]
      | true =>
        simp only [stepD]
        generalize cls o.i = c
        match c with
        | 0 => simp only [doD, cI_run]; cases xi P e m o.i with
          | none => rfl
          | some r => cases r <;> rfl
        | 1 => simp only [doD, cI_run]; cases xi P e m o.i with
          | none => rfl
          | some r => cases r <;> rfl
        | 2 => simp only [doD, cI_run]; cases xi P e m o.i with
          | none => rfl
          | some r => cases r <;> rfl
        | n + 3 =>
          simp only [doD, eff, againF_eq, cI_run]
          split
          · cases outOf C m (xi P e m o.i) <;> rfl
          · rfl
end

section
variable (P : Program) (X : FuncId → Option XDecl) (G : List XItem → Env → Mem → Option (Env × Mem))
noncomputable def retF (F : XFunc) : Option (Env × Mem) → Option (Value × Mem)
  | none => none
  | some (e', m') => (xres e' m' F.res).bind fun vs => some (tup vs, m')
noncomputable def enterF (F : XFunc) (args : List Value) (m : Mem) : Option (Value × Mem) :=
  if args.length = F.nargs then retF F (G [.code F.body] (initEnv 0 args) m) else none
noncomputable def extF (f : FuncId) (args : List Value) (m : Mem) : Option (Value × Mem) :=
  if args.all plain then (ans P (callFunc f args.toArray)).bind fun nx => match nx with
      | .value v => if plain v then some (v, m) else none
      | _ => none
  else none
noncomputable def insF (F : XFunc) (args : List Value) (m : Mem) : Option (Value × Mem) → Option (Value × Mem)
  | some r => some r
  | none => enterF G F args m
noncomputable def retD (F : XFunc) : Option (Env × Mem) → Option (Value × Mem)
  | none => none
  | some (e', m') => xfin X (fun c e m => G [.code c] e m) F e' m'
noncomputable def enterD (F : XFunc) (args : List Value) (m : Mem) : Option (Value × Mem) :=
  if args.length = F.nargs then retD X G F (G [.code F.body] ((slotD, .nilFunc) :: initEnv 0 args) m) else none
noncomputable def callD (args : List Value) (m : Mem) : Option XDecl → Option (Value × Mem)
  | none => none
  | some (.known v) => if args.length = 0 then some (v, m) else none
  | some (.ext f) => extF P f args m
  | some (.code F) => enterF G F args m
  | some (.ins F size) => insF G F args m (insG size args m)
  | some (.codeD F) => enterD X G F args m
noncomputable def callF (f : FuncId) (args : List Value) (m : Mem) : Option (Value × Mem) := callD P X G args m (X f)

abbrev Ops := List XOp → Env → Mem → Option (Env × Mem)
noncomputable def nextF (k : List XItem) (keep : Option (List Nat)) : Option (Env × Mem) → Option (Env × Mem)
  | some (e', m') => G k (keepF keep e') m'
  | none => none
noncomputable def condF (k : List XItem) (e : Env) (m : Mem) (a b : XCode) : Option Value → Option (Env × Mem)
  | some (.bool t) => G (.code (bif t then a else b) :: k) e m
  | _ => none
noncomputable def exitF (e : Env) (m : Mem) : Option (List XItem) → Option (Env × Mem)
  | some k' => G k' e m
  | none => none
noncomputable def opscF (D : List (Nat × Nat × XOp) → List Pend → Env → Mem → Option (Env × Mem)) (l : List (Nat × Nat × XOp)) (keep : Option (List Nat)) (k : List XItem) (e : Env) (m : Mem) : Option (Env × Mem) → Option (Env × Mem)
  | some (e', m') => if (D (swapL l) [] e m).isSome && apartC e' l then G k (keepF keep e') m' else none
  | none => none
abbrev OpsT := List XOp → Env → Mem → Option (Env × Mem)
abbrev OpsD := List (Nat × Nat × XOp) → List Pend → Env → Mem → Option (Env × Mem)
structure CodeS where
  go : (List XItem → Env → Mem → Option (Env × Mem)) → OpsT → OpsD → List XItem → Env → Mem → Option (Env × Mem)
noncomputable def nextR (G : List XItem → Env → Mem → Option (Env × Mem)) (k : List XItem) (keep : Option (List Nat)) (o : Option (Env × Mem)) : Option (Env × Mem) :=
  Option.rec none (fun r => Prod.rec (fun e' m' => G k (keepF keep e') m') r) o
noncomputable def condR (G : List XItem → Env → Mem → Option (Env × Mem)) (k : List XItem) (e : Env) (m : Mem) (a b : XCode) (o : Option Value) : Option (Env × Mem) := condF G k e m a b o
noncomputable def cS : XCode → CodeS
  | .skip => ⟨fun G _ _ k e m => G k e m⟩
  | .seq a b => ⟨fun G _ _ k e m => G (.code a :: .code b :: k) e m⟩
  | .cond c a b => ⟨fun G _ _ k e m => condF G k e m a b (c.evF e)⟩
  | .block id c => ⟨fun G _ _ k e m => G (.code c :: .inBlock id :: k) e m⟩
  | .loop c => ⟨fun G _ _ k e m => G (.code c :: .inLoop c :: k) e m⟩
  | .exit id => ⟨fun G _ _ k e m => exitF G e m (xexit id k)⟩
  | .ret => ⟨fun _ _ _ _ e m => some (e, m)⟩
  | .ops l keep => ⟨fun G O _ k e m => nextR G k keep (O l e m)⟩
  | .opsr l keep => ⟨fun G O _ k e m => nextR G k keep (O l e m)⟩
  | .opsd l keep => ⟨fun G _ D k e m => nextR G k keep (D l [] e m)⟩
  | .opsc l keep => ⟨fun G _ D k e m => opscF G D l keep k e m (D l [] e m)⟩
noncomputable def stepF (O : OpsT) (D : OpsD) (e : Env) (m : Mem) (k : List XItem) : Option (Env × Mem) :=
  List.rec (some (e, m)) (fun i k _ => XItem.rec (fun c => (cS c).go G O D k e m) (fun _ => G k e m) (fun c => G (.code c :: .inLoop c :: k) e m) i) k
end

noncomputable def xgoF (P : Program) (X : FuncId → Option XDecl) (n : Nat) : List XItem → Env → Mem → Option (Env × Mem) :=
  Nat.rec (fun _ _ _ => none) (fun _ G k e m => stepF G (xopsF P (callF P X G)) (xopsDF P (callF P X G)) e m k) n
noncomputable def xcallF (P : Program) (X : FuncId → Option XDecl) (n : Nat) (f : FuncId) (args : List Value) (m : Mem) : Option (Value × Mem) := callF P X (xgoF P X n) f args m

section
variable {P : Program} {X : FuncId → Option XDecl}
theorem callF_go (n : Nat) (f : FuncId) (args : List Value) (m : Mem) : callF P X (xgo P X n) f args m = xcall P X n f args m := by
  unfold callF xcall
  cases X f with
  | none => rfl
  | some d => cases d with
    | known v => rfl
    | ext f => rfl
    | code F =>
      simp only [callD, enterF]
      split
      · cases xgo P X n [.code F.body] (initEnv 0 args) m <;> rfl
      · rfl
    | ins F size =>
      simp only [callD]
      cases insG size args m with
      | some r => rfl
      | none =>
        simp only [insF, enterF]
        split
        · cases xgo P X n [.code F.body] (initEnv 0 args) m <;> rfl
        · rfl
    | codeD F =>
      simp only [callD, enterD]
      split
      · cases xgo P X n [.code F.body] ((slotD, .nilFunc) :: initEnv 0 args) m <;> rfl
      · rfl
theorem xgo_succ (n : Nat) (k : List XItem) (e : Env) (m : Mem) : xgo P X (n + 1) k e m = stepF (xgo P X n) (xops P (xcall P X n)) (xopsD P (xcall P X n)) e m k := by
  rw [xgo.eq_def]
  simp only
  cases k with
  | nil => rfl
  | cons i k => cases i with
    | inBlock _ => rfl
    | inLoop c => rfl
    | code c =>
      show _ = (cS c).go (xgo P X n) (xops P (xcall P X n)) (xopsD P (xcall P X n)) k e m
      cases c with
      | skip => rfl
      | seq a b => rfl
      | cond c a b => simp only [cS, evF_eq]; cases c.ev e with
        | none => rfl
        | some v => cases v <;> rfl
      | block id c => rfl
      | loop c => rfl
      | exit id => simp only [cS]; cases xexit id k <;> rfl
      | ret => rfl
      | ops l keep =>
        show (match xops P (xcall P X n) l e m with | some (e', m') => xgo P X n k (keepOf keep e') m' | none => none) = nextR (xgo P X n) k keep (xops P (xcall P X n) l e m)
        cases xops P (xcall P X n) l e m with
        | none => rfl
        | some r => simp only [nextR, keepF_eq]
      | opsr l keep =>
        show (match xops P (xcall P X n) l e m with | some (e', m') => xgo P X n k (keepOf keep e') m' | none => none) = nextR (xgo P X n) k keep (xops P (xcall P X n) l e m)
        cases xops P (xcall P X n) l e m with
        | none => rfl
        | some r => simp only [nextR, keepF_eq]
      | opsd l keep =>
        show (match xopsD P (xcall P X n) l [] e m with | some (e', m') => xgo P X n k (keepOf keep e') m' | none => none) = nextR (xgo P X n) k keep (xopsD P (xcall P X n) l [] e m)
        cases xopsD P (xcall P X n) l [] e m with
        | none => rfl
        | some r => simp only [nextR, keepF_eq]
      | opsc l keep =>
        show (match xopsD P (xcall P X n) l [] e m with | some (e', m') => if (xopsD P (xcall P X n) (swapL l) [] e m).isSome && apartC e' l then xgo P X n k (keepOf keep e') m' else none | none => none) = opscF (xgo P X n) (xopsD P (xcall P X n)) l keep k e m (xopsD P (xcall P X n) l [] e m)
        cases xopsD P (xcall P X n) l [] e m with
        | none => rfl
        | some r => simp only [opscF, keepF_eq]
theorem xgoF_eq : ∀ (n : Nat) (k : List XItem) (e : Env) (m : Mem), xgoF P X n k e m = xgo P X n k e m
  | 0, _, _, _ => rfl
  | n + 1, k, e, m => by
    have ih : xgoF P X n = xgo P X n := funext fun k => funext fun e => funext fun m => xgoF_eq n k e m
    have hC : callF P X (xgo P X n) = xcall P X n := funext fun f => funext fun a => funext fun m => callF_go n f a m
    have hO : ∀ C, xopsF P C = xops P C := fun C => funext fun l => funext fun e => funext fun m => xopsF_eq P C l e m
    have hD : ∀ C, xopsDF P C = xopsD P C := fun C => funext fun l => funext fun p => funext fun e => funext fun m => xopsDF_eq P C l p e m
    rw [xgo_succ]
    show stepF (xgoF P X n) (xopsF P (callF P X (xgoF P X n))) (xopsDF P (callF P X (xgoF P X n))) e m k = _
    rw [ih, hC, hO, hD]
theorem xcallF_eq (n : Nat) (f : FuncId) (args : List Value) (m : Mem) : xcallF P X n f args m = xcall P X n f args m := by
  have ih : xgoF P X n = xgo P X n := funext fun k => funext fun e => funext fun m => xgoF_eq n k e m
  unfold xcallF
  rw [ih]
  exact callF_go n f args m
end
end Q
end Go.Proofs.YtglefgcnafoafaaGreatDoor.X
