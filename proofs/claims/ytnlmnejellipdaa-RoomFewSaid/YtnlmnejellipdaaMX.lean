/-
  Own work. The room in memory: whose rows are which; what is told without a change. The room in memory: a key has another chain. The room, plain: places of chains, and what each key has. The room as a whole; a key has another chain. The room as a whole: a key has another chain (the cases).
-/
import Derived.Test.YtnlmnejellipdaaTZ
import Derived.Test.YtnlmnejellipdaaCC
import Derived.Test.YtnlmnejellipdaaQQ
import Derived.Test.YtnlmnejellipdaaG1
namespace Go.Proofs.Ytnlmnejellipdaa
open Go X
set_option maxRecDepth 100000
attribute [local irreducible] X.Go' X.GoO X.GoR X.GoG X.GoC X.GoF X.GoFV X.GoFG X.Ex X.GoD X.GoDV X.GoDG
set_option linter.unusedVariables false
set_option linter.unusedSimpArgs false
abbrev Ver := Chn.Ver
def rmT : Tag → Bool
 | .no => false
 | .other n => decide (n < 3) || (decide (10 ≤ n) && decide (n ≤ 14))
 | _ => true
structure GrR (σ σ' : Nat → Tag) (m m' : Mem) : Prop where
 fm : Fm (fun j => rmT (σ j) = true) m m'
 out : ∀ j, j < m.next → rmT (σ j) = false → σ' j = σ j
 fut : ∀ j, m'.next ≤ j → σ' j = σ j
theorem rm_tr {t : Tag} (h : tr t = true) : rmT t = true := by
 cases t <;> simp_all [rmT, tr]
section
variable {σ σ' σ'' : Nat → Tag} {t : Tag} {m m' m'' : Mem} {v : Value} {vs : List Ver} {vals : List Value} {cs : List (List Ver)} {rp : Nat} {rs begin seq : Int} {st : List Int} {xs : List Value} {p k : Nat} {es : List Ent}
theorem GrR.refl : GrR σ σ m m := ⟨.refl, fun _ _ _ => rfl, fun _ _ => rfl⟩
theorem GrR.next (h : GrR σ σ' m m') : m.next ≤ m'.next := h.fm.next
theorem GrR.trans (h : GrR σ σ' m m') (h' : GrR σ' σ'' m' m'') : GrR σ σ'' m m'' := by
 refine ⟨h.fm.comp h'.fm fun j hj ht => ?_, fun j hj ht => by rw [h'.out j (Nat.lt_of_lt_of_le hj h.fm.next) (by rw [h.out j hj ht]; exact ht), h.out j hj ht], fun j hj => by rw [h'.fut j hj, h.fut j (Nat.le_trans h'.fm.next hj)]⟩
 cases hq : rmT (σ j) with
 | true => rfl
 | false => rw [h.out j hj hq, hq] at ht; cases ht
theorem GrR.nx (h : Nx m m') : GrR σ σ m m' := ⟨h.mono fun _ _ h => h.elim, fun _ _ _ => rfl, fun _ _ => rfl⟩
theorem GrR.ch (h : Ch t σ σ' m m') (ht : rmT t = true) : GrR σ σ' m m' := ⟨h.fm.mono fun j _ (e : σ j = t) => by rw [e]; exact ht, fun j hj _ => h.sig j hj, h.fut⟩
theorem GrR.gr (h : Gr σ σ' m m') : GrR σ σ' m m' := ⟨h.fm.mono fun j _ q => rm_tr q, fun j hj q => h.out j hj (by
 cases hq : tr (σ j) with
 | false => rfl
 | true => rw [rm_tr hq] at q; cases q), h.fut⟩
def RingT (σ : Nat → Tag) (m : Mem) (rp : Nat) (rs begin seq : Int) (st : List Int) : Prop := ∃ FS, Rng.RingAt FS m rp rs begin seq st ∧ σ rp = .other 11 ∧ ∀ i ∈ FS, σ i = .other 11
def ChV (σ : Nat → Tag) (m : Mem) (v : Value) (vs : List Ver) : Prop := ∃ F, Chn.OwnV F m v vs ∧ ∀ i ∈ F, σ i = .no
def ChsV (σ : Nat → Tag) (m : Mem) (vals : List Value) (cs : List (List Ver)) : Prop := vals.length = cs.length ∧ ∀ (i : Nat) (v : Value) (vs : List Ver), vals[i]? = some v → cs[i]? = some vs → ChV σ m v vs
theorem RingT.ch (h : RingT σ m rp rs begin seq st) (hc : Ch t σ σ' m m') (h1 : t ≠ .other 11) : RingT σ' m' rp rs begin seq st := by
 obtain ⟨FS, a, b, c⟩ := h
 obtain ⟨l1, l2⟩ := a.lt
 exact ⟨FS, a.fr hc.fm (fun q => h1 (by rw [← q]; exact b)) fun i hi q => h1 (by rw [← q]; exact c i hi), by rw [hc.sig rp l1]; exact b, fun i hi => by rw [hc.sig i (l2 i hi)]; exact c i hi⟩
theorem RingT.nx (h : RingT σ m rp rs begin seq st) (hc : Nx m m') : RingT σ m' rp rs begin seq st := by
 obtain ⟨FS, a, b, c⟩ := h
 exact ⟨FS, a.fr hc (fun q => q) fun i hi q => q, b, c⟩
theorem RingT.gr (h : RingT σ m rp rs begin seq st) (hc : Gr σ σ' m m') : RingT σ' m' rp rs begin seq st := by
 obtain ⟨FS, a, b, c⟩ := h
 obtain ⟨l1, l2⟩ := a.lt
 exact ⟨FS, a.fr hc.fm (fun q => by rw [b] at q; simp [tr] at q) fun i hi q => by rw [c i hi] at q; simp [tr] at q, by rw [hc.out rp l1 (by rw [b]; rfl)]; exact b, fun i hi => by rw [hc.out i (l2 i hi) (by rw [c i hi]; rfl)]; exact c i hi⟩
theorem ChV.ch (h : ChV σ m v vs) (hc : Ch t σ σ' m m') (ht : t ≠ .no) : ChV σ' m' v vs := by
 obtain ⟨F, a, b⟩ := h
 exact ⟨F, a.fr hc.fm fun i hi q => ht (by rw [← q]; exact b i hi), fun i hi => by rw [hc.sig i (a.lt i hi)]; exact b i hi⟩
theorem ChV.nx (h : ChV σ m v vs) (hc : Nx m m') : ChV σ m' v vs := by
 obtain ⟨F, a, b⟩ := h
 exact ⟨F, a.fr hc fun i hi q => q, b⟩
theorem ChV.gr (h : ChV σ m v vs) (hc : Gr σ σ' m m') : ChV σ' m' v vs := by
 obtain ⟨F, a, b⟩ := h
 exact ⟨F, a.fr hc.fm fun i hi q => by rw [b i hi] at q; simp [tr] at q, fun i hi => by rw [hc.out i (a.lt i hi) (by rw [b i hi]; rfl)]; exact b i hi⟩
theorem ChV.grR (h : ChV σ m v vs) (hc : GrR σ σ' m m') : ChV σ' m' v vs := by
 obtain ⟨F, a, b⟩ := h
 exact ⟨F, a.fr hc.fm fun i hi q => by rw [b i hi] at q; simp [rmT] at q, fun i hi => by rw [hc.out i (a.lt i hi) (by rw [b i hi]; rfl)]; exact b i hi⟩
theorem ChV.rd (h : ChV σ m v vs) : Chn.RdV m.next m v vs := by
 obtain ⟨F, a, _⟩ := h
 exact Chn.ownv_rd a
theorem ChV.cut (h : ChV σ m v vs) : CutOk m 5 v := by
 obtain ⟨F, a, _⟩ := h
 exact a.cut
theorem ChV.nil : ChV σ m (.slice none 0 0) [] := ⟨[], .nil, by simp⟩
theorem ChV.slice (h : ChV σ m v vs) : ∃ q c, v = .slice q vs.length c := Chn.rdv_slice h.rd
theorem ChsV.ch (h : ChsV σ m vals cs) (hc : Ch t σ σ' m m') (ht : t ≠ .no) : ChsV σ' m' vals cs := ⟨h.1, fun i v vs a b => (h.2 i v vs a b).ch hc ht⟩
theorem ChsV.nx (h : ChsV σ m vals cs) (hc : Nx m m') : ChsV σ m' vals cs := ⟨h.1, fun i v vs a b => (h.2 i v vs a b).nx hc⟩
theorem ChsV.gr (h : ChsV σ m vals cs) (hc : Gr σ σ' m m') : ChsV σ' m' vals cs := ⟨h.1, fun i v vs a b => (h.2 i v vs a b).gr hc⟩
theorem TreeM.cho {n : Nat} (h : TreeM σ m p es k) (hc : Ch (.other n) σ σ' m m') : TreeM σ' m' p es k := by
 obtain ⟨vl, vf, ns, ls, fr, root, ht, hr, b1, b2⟩ := h
 exact ⟨vl, vf, ns, ls, fr, root, ht.ch hc (by simp) (by simp) (by simp) (by simp), hr, b1, b2⟩
theorem TreeM.fresh (h : TreeM σ m p es k) : ∀ j, m.next ≤ j → σ j = .no := by
 obtain ⟨vl, vf, ns, ls, fr, root, ht, _⟩ := h
 exact ht.fresh
end
section
variable {σ : Nat → Tag} {m : Mem} {rp : Nat} {rs begin seq : Int} {st : List Int}
theorem RingT.push {t : Int} (h : RingT σ m rp rs begin seq st) (hf : ∀ j, m.next ≤ j → σ j = .no) (hs : Rng.Small rs begin seq st) (ht : ¬ t ≤ st.getLast?.getD 0) (hq : ¬ 1073741824 ≤ seq) :
  ∃ m' σ', Ca 15 [Pt rp, U t] m (.tuple #[I (seq + 1), I 0]) m' ∧ RingT σ' m' rp rs begin (seq + 1) (Rng.pushed rs st t) ∧ Ch (.other 11) σ σ' m m' := by
 obtain ⟨FS, a, b, c⟩ := h
 obtain ⟨m', F', c1, c2, c3, c4⟩ := Rng.push_ok a hs ht hq
 obtain ⟨l1, l2⟩ := a.lt
 obtain ⟨l3, l4⟩ := c2.lt
 have hn := c3.next
 refine ⟨m', fun j => if j ∈ F' then .other 11 else σ j, c1, ⟨F', c2, ?_, fun i hi => if_pos hi⟩, fun j hj => ?_, c3.mono fun j _ hj => ?_, fun j hj => if_neg fun q => by have := l4 j q; omega⟩
 ·show (if rp ∈ F' then Tag.other 11 else σ rp) = _
  split
  ·rfl
  ·exact b
 ·show (if j ∈ F' then Tag.other 11 else σ j) = σ j
  split
  ·rename_i h
   rcases c4 j h with h | h
   ·exact (c j h).symm
   ·omega
  ·rfl
 ·rcases hj with rfl | hj
  ·exact b
  ·exact c j hj
end
structure RoomM (σ : Nat → Tag) (m : Mem) (r rp tp : Nat) (vl vc vf : Value) (rs qt ms live cnt ver begin seq : Int) (st : List Int) (es : List Ent) (k : Nat) (vals : List Value) (cs : List (List Ver)) (fr : List Nat) : Prop where
 get : m.get r = some { cells := [vl, I rs, I qt, I ms, Pt rp, Pt tp, vc, vf, I live, I cnt, I ver], rw := true, spare := none, kin := [] }
 tag : σ r = .other 10
 lt : r < m.next
 ring : RingT σ m rp rs begin seq st
 tree : TreeM σ m tp es k
 chn : Tg σ (.other 13) m vc vals
 fre : Tg σ (.other 14) m vf (fr.map nv)
 cs : ChsV σ m vals cs
section
variable {σ σ' : Nat → Tag} {t : Tag} {m m' : Mem} {r rp tp : Nat} {vl vc vf : Value} {rs qt ms live cnt ver begin seq : Int} {st : List Int} {es : List Ent} {k : Nat} {vals : List Value} {cs : List (List Ver)} {fr : List Nat} {key : Key} {v : Value} {vs : List Ver}
theorem RoomM.nx (h : RoomM σ m r rp tp vl vc vf rs qt ms live cnt ver begin seq st es k vals cs fr) (hf : Nx m m') : RoomM σ m' r rp tp vl vc vf rs qt ms live cnt ver begin seq st es k vals cs fr :=
 ⟨hf.get h.lt (fun q => q) h.get, h.tag, Nat.lt_of_lt_of_le h.lt hf.next, h.ring.nx hf, h.tree.nx hf, h.chn.nx hf, h.fre.nx hf, h.cs.nx hf⟩
theorem RoomM.row (h : RoomM σ m r rp tp vl vc vf rs qt ms live cnt ver begin seq st es k vals cs fr) (hf : Fm (· = r) m m') {live' cnt' ver' : Int} (hg : m'.get r = some { cells := [vl, I rs, I qt, I ms, Pt rp, Pt tp, vc, vf, I live', I cnt', I ver'], rw := true, spare := none, kin := [] }) :
  RoomM σ m' r rp tp vl vc vf rs qt ms live' cnt' ver' begin seq st es k vals cs fr ∧ Ch (.other 10) σ σ m m' := by
 have hc : Ch (.other 10) σ σ m m' := ⟨fun _ _ => rfl, hf.mono fun j _ (e : j = r) => by rw [e]; exact h.tag, fun _ _ => rfl⟩
 exact ⟨⟨hg, h.tag, Nat.lt_of_lt_of_le h.lt hf.next, h.ring.ch hc (by simp), h.tree.cho hc, h.chn.ch hc (by simp), h.fre.ch hc (by simp), h.cs.ch hc (by simp)⟩, hc⟩
theorem rseq_spec (h : RoomM σ m r rp tp vl vc vf rs qt ms live cnt ver begin seq st es k vals cs fr) : Ca 24 [Pt r] m (I seq) m := by
 obtain ⟨FS, a, _⟩ := h.ring
 have := Rng.seq_spec a
 refine callX_of (call_go (F := _) rfl rfl fun Q hQ => ?_)
 simp only [symA, symB, X.put, X.look, Arg.ev, keepOf, restrict, evs, initEnv, ↓reduceIte, reduceCtorEq, eq_self, isNil_ptr', h.get, goR_call this]
 exact hQ _ _ _ rfl ⟨rfl, rfl⟩
theorem rfloor_spec (h : RoomM σ m r rp tp vl vc vf rs qt ms live cnt ver begin seq st es k vals cs fr) (hs : Rng.Small rs begin seq st) : Ca 20 [Pt r] m (I (Rng.floorOf rs begin seq)) m := by
 obtain ⟨FS, a, _⟩ := h.ring
 have := Rng.floor_spec a hs
 refine callX_of (call_go (F := _) rfl rfl fun Q hQ => ?_)
 simp only [symA, symB, X.put, X.look, Arg.ev, keepOf, restrict, evs, initEnv, ↓reduceIte, reduceCtorEq, eq_self, isNil_ptr', h.get, goR_call this]
 exact hQ _ _ _ rfl ⟨rfl, rfl⟩
theorem rvers_spec (h : RoomM σ m r rp tp vl vc vf rs qt ms live cnt ver begin seq st es k vals cs fr) : Ca 9 [Pt r] m (I ver) m := by
 refine callX_of (call_go (F := _) rfl rfl fun Q hQ => ?_)
 simp only [symA, symB, X.put, X.look, Arg.ev, keepOf, restrict, initEnv, ↓reduceIte, reduceCtorEq, eq_self, isNil_ptr', h.get]
 exact hQ _ _ _ rfl ⟨rfl, rfl⟩
theorem rkeys_spec (h : RoomM σ m r rp tp vl vc vf rs qt ms live cnt ver begin seq st es k vals cs fr) : Ca 10 [Pt r] m (I cnt) m := by
 refine callX_of (call_go (F := _) rfl rfl fun Q hQ => ?_)
 simp only [symA, symB, X.put, X.look, Arg.ev, keepOf, restrict, initEnv, ↓reduceIte, reduceCtorEq, eq_self, isNil_ptr', h.get]
 exact hQ _ _ _ rfl ⟨rfl, rfl⟩
structure PlaceOk (es : List Ent) (cs : List (List Ver)) (fr : List Nat) : Prop where
 lt : ∀ e ∈ es, 0 ≤ e.2 ∧ e.2.toNat < cs.length ∧ e.2.toNat ∉ fr
 inj : (es.map (·.2)).Nodup
 fl : ∀ i ∈ fr, i < cs.length
 nd : fr.Nodup
def chainOf (es : List Ent) (cs : List (List Ver)) (key : Key) : List Ver := match getE key es with | some i => (cs[i.toNat]?).getD [] | none => []
theorem getE_mem {i : Int} (h : getE key es = some i) : (key, i) ∈ es := by
 unfold getE at h
 obtain ⟨e, he, rfl⟩ := Option.map_eq_some_iff.1 h
 have h1 := List.find?_some he
 have h2 := List.mem_of_find?_eq_some he
 have : e.1 = key := of_decide_eq_true h1
 rw [← this]; exact h2
theorem chain_spec (h : RoomM σ m r rp tp vl vc vf rs qt ms live cnt ver begin seq st es k vals cs fr) (hp : PlaceOk es cs fr) : ∃ v, Ca 18 [Pt r, .string key] m v m ∧ ChV σ m v (chainOf es cs key) ∧ (∀ i, getE key es = some i → vals[i.toNat]? = some v) := by
 have hg := Get_spec (key := key) h.tree
 have hr := h.get
 unfold chainOf
 cases hq : getE key es with
 | none =>
  rw [hq] at hg
  refine ⟨.slice none 0 0, callX_of (call_go (F := _) rfl rfl fun Q hQ => ?_), ChV.nil, fun i hi => by cases hi⟩
  simp only [symA, symB, X.put, X.look, Arg.ev, keepOf, restrict, evs, initEnv, Nat.reduceEqDiff, ↓reduceIte, reduceCtorEq, eq_self, isNil_ptr', hr, goR_call hg, Option.getD_none, Option.isSome_none]
  exact hQ _ _ _ rfl ⟨rfl, rfl⟩
 | some i =>
  rw [hq] at hg
  obtain ⟨i1, i2, i3⟩ := hp.lt _ (getE_mem hq)
  have hlv : i.toNat < vals.length := by rw [h.cs.1]; exact i2
  obtain ⟨v, hv⟩ : ∃ v, vals[i.toNat]? = some v := ⟨_, List.getElem?_eq_getElem hlv⟩
  obtain ⟨vs, hvs⟩ : ∃ vs, cs[i.toNat]? = some vs := ⟨_, List.getElem?_eq_getElem i2⟩
  obtain ⟨F, o1, _⟩ := h.chn
  obtain ⟨a, c, o, e1, e2, e3⟩ := rd_at o1.rd hv
  have ei : i = (i.toNat : Int) := by omega
  refine ⟨v, callX_of (call_go (F := _) rfl rfl fun Q hQ => ?_), ?_, fun j hj => by cases hj; exact hv⟩
  ·subst e1
   have hix : ∀ M : Mem, indexAddrE M 1 (.slice (some a) vals.length c) (I i) = some (.val (.pointer (some ⟨a.block, a.off + i.toNat, none⟩)) M) := fun M => by
    have := indexAddr_at (m := M) (size := 1) (i := i.toNat) (len := vals.length) (c := c) (a := a) (kd := .i64) hlv
    rw [← ei, Nat.mul_one] at this
    exact this
   simp only [symA, symB, X.put, X.look, Arg.ev, keepOf, restrict, evs, initEnv, Nat.reduceEqDiff, ↓reduceIte, reduceCtorEq, eq_self, isNil_ptr', hr, goR_call hg, Option.getD_some, Option.isSome_some, hix, e2, e3]
   exact hQ _ _ _ rfl ⟨rfl, rfl⟩
  ·show ChV σ m v ((cs[i.toNat]?).getD [])
   rw [hvs]
   exact h.cs.2 _ _ _ hv hvs
def livesN (key : Key) (vs : List Ver) : Nat := if Chn.wgtL (Chn.lastV vs) = 0 then 0 else key.size + Chn.wgtL (Chn.lastV vs)
theorem wgt_le : Chn.wgtL (Chn.lastV vs) ≤ 65 := by
 unfold Chn.wgtL Chn.lastV
 split
 ·rename_i x hx
  split at hx
  ·rename_i hok
   have hm := List.mem_of_getLast? hx
   have hv := Chn.okC_vright hok hm
   split
   ·omega
   ·unfold Chn.wgtX
    unfold Chn.vright at hv
    cases hn : x.num with
    | true => simp
    | false =>
     rw [hn] at hv
     simp at hv
     simp; omega
  ·cases hx
 ·omega
theorem lives_spec (h : ChV σ m v vs) (hw : ∀ x ∈ vs, x.Wf) (hl : vs.length ≤ 1000) (hk : key.size ≤ 1000) : ∃ m', Ca 32 [.string key, v] m (I (livesN key vs : Int)) m' ∧ Nx m m' := by
 obtain ⟨m1, c1, c2⟩ := Chn.weight_spec h.rd hw hl (Nat.le_refl _)
 have hle := wgt_le (vs := vs)
 refine ⟨m1, callX_of (call_go (F := _) rfl rfl fun Q hQ => ?_), c2⟩
 unfold livesN at hQ
 by_cases h0 : Chn.wgtL (Chn.lastV vs) = 0
 ·have h0' : (Chn.wgtL (Chn.lastV vs) : Int) = 0 := by omega
  rw [if_pos h0] at hQ
  simp only [symA, symB, X.put, X.look, Arg.ev, keepOf, restrict, evs, initEnv, Nat.reduceEqDiff, ↓reduceIte, reduceCtorEq, eq_self, goR_call c1, h0']
  exact hQ _ _ _ rfl ⟨rfl, rfl⟩
 ·have h0' : ¬ (Chn.wgtL (Chn.lastV vs) : Int) = 0 := by omega
  rw [if_neg h0] at hQ
  have w1 : IntKind.i64.wrap ((key.size : Int) + (Chn.wgtL (Chn.lastV vs) : Int)) = ((key.size + Chn.wgtL (Chn.lastV vs) : Nat) : Int) := by rw [wrap_i64 (by omega) (by omega)]; omega
  simp only [symA, symB, X.put, X.look, Arg.ev, keepOf, restrict, evs, initEnv, Nat.reduceEqDiff, ↓reduceIte, reduceCtorEq, eq_self, goR_call c1, h0', Chn.calc_len, w1]
  exact hQ _ _ _ rfl ⟨rfl, rfl⟩
end
section
variable {σ σ' : Nat → Tag} {t : Tag} {m m' : Mem} {r rp tp : Nat} {vl vc vf : Value} {rs qt ms live cnt ver begin seq : Int} {st : List Int} {es : List Ent} {k : Nat} {vals : List Value} {cs : List (List Ver)} {fr : List Nat} {key : Key} {v : Value} {vs : List Ver}
theorem RoomM.num (h : RoomM σ m r rp tp vl vc vf rs qt ms live cnt ver begin seq st es k vals cs fr) {i : Nat} {x : Int} {live' cnt' ver' : Int} (hi : i < 11) (he : ([vl, I rs, I qt, I ms, Pt rp, Pt tp, vc, vf, I live, I cnt, I ver] : List Value).set i (I x) = [vl, I rs, I qt, I ms, Pt rp, Pt tp, vc, vf, I live', I cnt', I ver']) :
  ∃ m', storeE m 1 (.pointer (some ⟨r, i, none⟩)) (I x) = some (.skip m') ∧ RoomM σ m' r rp tp vl vc vf rs qt ms live' cnt' ver' begin seq st es k vals cs fr ∧ Ch (.other 10) σ σ m m' := by
 obtain ⟨m', s1, s2, s3, _⟩ := fld_store (i := i) (x := I x) h.get hi rfl rfl
 rw [he] at s2
 obtain ⟨k1, k2⟩ := h.row s3 s2
 exact ⟨m', s1, k1, k2⟩
theorem RoomM.stc (h : RoomM σ m r rp tp vl vc vf rs qt ms live cnt ver begin seq st es k vals cs fr) {vc' : Value} {vals' : List Value} {cs' : List (List Ver)} (hc : Ch (.other 13) σ σ' m m') (ht : Tg σ' (.other 13) m' vc' vals') (hcs : ChsV σ' m' vals' cs') :
  ∃ m2, storeE m' 1 (.pointer (some ⟨r, 6, none⟩)) vc' = some (.skip m2) ∧ RoomM σ' m2 r rp tp vl vc' vf rs qt ms live cnt ver begin seq st es k vals' cs' fr ∧ GrR σ σ' m m2 := by
 have hg := hc.fm.get h.lt (by rw [h.tag]; simp) h.get
 have hr : σ' r = .other 10 := by rw [hc.sig r h.lt]; exact h.tag
 obtain ⟨q, c, hv⟩ := ht.slice
 obtain ⟨m2, s1, s2, s3, _⟩ := fld_store (i := 6) (x := vc') hg (by simp) (by rw [hv]; rfl) (by rw [hv]; rfl)
 have hc2 : Ch (.other 10) σ' σ' m' m2 := ⟨fun _ _ => rfl, s3.mono fun j _ (e : j = r) => by rw [e]; exact hr, fun _ _ => rfl⟩
 exact ⟨m2, s1, ⟨s2, hr, Nat.lt_of_lt_of_le h.lt (Nat.le_trans hc.next hc2.next), (h.ring.ch hc (by simp)).ch hc2 (by simp), (h.tree.cho hc).cho hc2, ht.ch hc2 (by simp), (h.fre.ch hc (by simp)).ch hc2 (by simp), hcs.ch hc2 (by simp)⟩, (GrR.ch hc rfl).trans (GrR.ch hc2 rfl)⟩
theorem RoomM.stf (h : RoomM σ m r rp tp vl vc vf rs qt ms live cnt ver begin seq st es k vals cs fr) {vf' : Value} {fr' : List Nat} (hc : Ch (.other 14) σ σ' m m') (ht : Tg σ' (.other 14) m' vf' (fr'.map nv)) :
  ∃ m2, storeE m' 1 (.pointer (some ⟨r, 7, none⟩)) vf' = some (.skip m2) ∧ RoomM σ' m2 r rp tp vl vc vf' rs qt ms live cnt ver begin seq st es k vals cs fr' ∧ GrR σ σ' m m2 := by
 have hg := hc.fm.get h.lt (by rw [h.tag]; simp) h.get
 have hr : σ' r = .other 10 := by rw [hc.sig r h.lt]; exact h.tag
 obtain ⟨q, c, hv⟩ := ht.slice
 obtain ⟨m2, s1, s2, s3, _⟩ := fld_store (i := 7) (x := vf') hg (by simp) (by rw [hv]; rfl) (by rw [hv]; rfl)
 have hc2 : Ch (.other 10) σ' σ' m' m2 := ⟨fun _ _ => rfl, s3.mono fun j _ (e : j = r) => by rw [e]; exact hr, fun _ _ => rfl⟩
 exact ⟨m2, s1, ⟨s2, hr, Nat.lt_of_lt_of_le h.lt (Nat.le_trans hc.next hc2.next), (h.ring.ch hc (by simp)).ch hc2 (by simp), (h.tree.cho hc).cho hc2, (h.chn.ch hc (by simp)).ch hc2 (by simp), ht.ch hc2 (by simp), (h.cs.ch hc (by simp)).ch hc2 (by simp)⟩, (GrR.ch hc rfl).trans (GrR.ch hc2 rfl)⟩
theorem RoomM.set (h : RoomM σ m r rp tp vl vc vf rs qt ms live cnt ver begin seq st es k vals cs fr) {i : Nat} (hi : i < cs.length) (hv : ChV σ m v vs) :
  ∃ a c m', vc = .slice (some a) vals.length c ∧ i < vals.length ∧ storeE m 1 (.pointer (some ⟨a.block, a.off + i, none⟩)) v = some (.skip m') ∧ RoomM σ m' r rp tp vl vc vf rs qt ms live cnt ver begin seq st es k (vals.set i v) (cs.set i vs) fr ∧ Ch (.other 13) σ σ m m' := by
 have hlv : i < vals.length := by rw [h.cs.1]; exact hi
 obtain ⟨q, c0, hvs⟩ := hv.slice
 obtain ⟨F, o1, o2⟩ := h.chn
 obtain ⟨a, c, m', e, s1, s2, s3⟩ := o1.set (i := i) (x := v) hlv (by rw [hvs]; rfl) (by rw [hvs]; rfl)
 have hc : Ch (.other 13) σ σ m m' := ⟨fun _ _ => rfl, s3.mono fun j _ hj => o2 j hj, fun _ _ => rfl⟩
 refine ⟨a, c, m', e, hlv, s1, ⟨hc.fm.get h.lt (by rw [h.tag]; simp) h.get, h.tag, Nat.lt_of_lt_of_le h.lt hc.next, h.ring.ch hc (by simp), h.tree.cho hc, ⟨F, s2, o2⟩, h.fre.ch hc (by simp), by rw [List.length_set, List.length_set]; exact h.cs.1, fun j w ws hw hws => ?_⟩, hc⟩
 by_cases hj : i = j
 ·subst hj
  rw [List.getElem?_set_self hlv] at hw
  rw [List.getElem?_set_self hi] at hws
  cases hw; cases hws
  exact hv.ch hc (by simp)
 ·rw [List.getElem?_set_ne hj] at hw hws
  exact (h.cs.2 j w ws hw hws).ch hc (by simp)
theorem RoomM.ring2 (h : RoomM σ m r rp tp vl vc vf rs qt ms live cnt ver begin seq st es k vals cs fr) {seq' : Int} {st' : List Int} (hc : Ch (.other 11) σ σ' m m') (hr : RingT σ' m' rp rs begin seq' st') : RoomM σ' m' r rp tp vl vc vf rs qt ms live cnt ver begin seq' st' es k vals cs fr :=
 ⟨hc.fm.get h.lt (by rw [h.tag]; simp) h.get, by rw [hc.sig r h.lt]; exact h.tag, Nat.lt_of_lt_of_le h.lt hc.next, hr, h.tree.cho hc, h.chn.ch hc (by simp), h.fre.ch hc (by simp), h.cs.ch hc (by simp)⟩
theorem RoomM.tree2 (h : RoomM σ m r rp tp vl vc vf rs qt ms live cnt ver begin seq st es k vals cs fr) {es' : List Ent} {k' : Nat} (g : Gr σ σ' m m') (t : TreeM σ' m' tp es' k') : RoomM σ' m' r rp tp vl vc vf rs qt ms live cnt ver begin seq st es' k' vals cs fr :=
 ⟨g.fm.get h.lt (fun q => by rw [h.tag] at q; exact absurd q (by decide)) h.get, by rw [g.out r h.lt (by rw [h.tag]; rfl)]; exact h.tag, Nat.lt_of_lt_of_le h.lt g.next, h.ring.gr g, t, g.tg rfl h.chn, g.tg rfl h.fre, h.cs.gr g⟩
end
abbrev RL := List (Key × List Ver)
abbrev atC (cs : List (List Ver)) (i : Int) : List Ver := (cs[i.toNat]?).getD []
def roomL (es : List Ent) (cs : List (List Ver)) : RL := es.map fun e => (e.1, atC cs e.2)
abbrev hasG (key : Key) (L : RL) : List Ver := (G.get key L).getD []
def layL (key : Key) (vs : List Ver) (L : RL) : RL := if vs = [] then G.del key L else G.put key vs L
section
variable {es es' A B : List Ent} {cs cs' : List (List Ver)} {fr : List Nat} {key : Key} {vs : List Ver} {o : Option Int} {i : Int} {n : Nat}
theorem room_sort (hs : SortE es) : G.Srt (roomL es cs) := by
 unfold roomL G.Srt
 rw [List.pairwise_map]
 exact hs
theorem room_cut (hc : G.Cut key es A o B) : G.Cut key (roomL es cs) (roomL A cs) (o.map (atC cs)) (roomL B cs) := by
 refine ⟨?_, fun x hx => ?_, fun x hx => ?_⟩
 ·unfold roomL
  rw [hc.eq]
  cases o <;> simp
 ·obtain ⟨e, he, rfl⟩ := List.mem_map.1 hx
  exact hc.lo e he
 ·obtain ⟨e, he, rfl⟩ := List.mem_map.1 hx
  exact hc.hi e he
theorem room_get (hs : SortE es) : hasG key (roomL es cs) = chainOf es cs key := by
 obtain ⟨A, o, B, hc⟩ := G.cut_ex (L := es) hs key
 unfold hasG chainOf
 rw [(room_cut hc).get, show getE key es = o from hc.get]
 cases o <;> rfl
theorem room_congr (h : ∀ e ∈ es, atC cs' e.2 = atC cs e.2) : roomL es cs' = roomL es cs := by
 unfold roomL
 exact List.map_congr_left fun e he => by rw [h e he]
theorem at_set_ne (h : n ≠ i.toNat) : atC (cs.set n vs) i = atC cs i := by
 unfold atC
 rw [List.getElem?_set_ne h]
theorem at_set (h : n < cs.length) (hi : i.toNat = n) : atC (cs.set n vs) i = vs := by
 unfold atC
 rw [hi, List.getElem?_set_self h]; rfl
theorem place_cut (hp : PlaceOk es cs fr) (hc : G.Cut key es A o B) : (∀ e ∈ A ++ B, 0 ≤ e.2 ∧ e.2.toNat < cs.length ∧ e.2.toNat ∉ fr) ∧ ((A ++ B).map (·.2)).Nodup ∧ ∀ j, o = some j → 0 ≤ j ∧ j.toNat < cs.length ∧ j.toNat ∉ fr ∧ ∀ e ∈ A ++ B, e.2.toNat ≠ j.toNat := by
 have hsub : (A ++ B).Sublist es := by
  rw [hc.eq, List.append_assoc]
  exact List.Sublist.append (List.Sublist.refl _) (List.sublist_append_right _ _)
 refine ⟨fun e he => hp.lt e (hsub.subset he), hp.inj.sublist (hsub.map _), fun j hj => ?_⟩
 subst hj
 have hm : (key, j) ∈ es := by rw [hc.eq]; simp
 obtain ⟨h1, h2, h3⟩ := hp.lt _ hm
 refine ⟨h1, h2, h3, fun e he q => ?_⟩
 have h4 := (hp.lt e (hsub.subset he)).1
 have hij : e.2 = j := by have : 0 ≤ j := h1; omega
 have hn := hp.inj
 rw [hc.eq] at hn
 simp only [Option.toList_some, List.map_cons, List.map_nil, List.map_append] at hn
 rw [List.append_assoc] at hn
 obtain ⟨n1, n2, n3⟩ := List.nodup_append.1 hn
 rcases List.mem_append.1 he with he | he
 ·exact n3 e.2 (List.mem_map.2 ⟨e, he, rfl⟩) j (by simp) hij
 ·have := (List.nodup_cons.1 (show (j :: B.map (·.2)).Nodup from n2)).1
  exact this (List.mem_map.2 ⟨e, he, hij⟩)
theorem room_set (hs : SortE es) (hp : PlaceOk es cs fr) (hg : getE key es = some i) : roomL es (cs.set i.toNat vs) = G.put key vs (roomL es cs) ∧ PlaceOk es (cs.set i.toNat vs) fr := by
 obtain ⟨A, o, B, hc⟩ := G.cut_ex (L := es) hs key
 have ho : o = some i := by rw [← hc.get]; exact hg
 subst ho
 obtain ⟨h1, h2, h3⟩ := place_cut hp hc
 obtain ⟨k1, k2, k3, k4⟩ := h3 i rfl
 refine ⟨?_, ⟨fun e he => by rw [List.length_set]; exact hp.lt e he, hp.inj, fun j hj => by rw [List.length_set]; exact hp.fl j hj, hp.nd⟩⟩
 rw [(room_cut hc).put, (room_cut (cs := cs.set i.toNat vs) hc).eq]
 rw [room_congr (es := A) fun e he => at_set_ne fun q => k4 e (by simp [he]) q.symm, room_congr (es := B) fun e he => at_set_ne fun q => k4 e (by simp [he]) q.symm]
 simp [at_set k2 rfl]
theorem room_del (hs : SortE es) (hp : PlaceOk es cs fr) (hg : getE key es = some i) : roomL (delE key es) (cs.set i.toNat []) = G.del key (roomL es cs) ∧ PlaceOk (delE key es) (cs.set i.toNat []) (fr ++ [i.toNat]) := by
 obtain ⟨A, o, B, hc⟩ := G.cut_ex (L := es) hs key
 have ho : o = some i := by rw [← hc.get]; exact hg
 subst ho
 obtain ⟨h1, h2, h3⟩ := place_cut hp hc
 obtain ⟨k1, k2, k3, k4⟩ := h3 i rfl
 have hd : delE key es = A ++ B := hc.del
 rw [hd]
 refine ⟨?_, ⟨fun e he => ⟨(h1 e he).1, by rw [List.length_set]; exact (h1 e he).2.1, fun q => ?_⟩, h2, fun j hj => ?_, ?_⟩⟩
 ·rw [(room_cut hc).del, room_congr (es := A ++ B) fun e he => at_set_ne fun q => k4 e he q.symm]
  unfold roomL
  rw [List.map_append]
 ·rcases List.mem_append.1 q with q | q
  ·exact (h1 e he).2.2 q
  ·exact k4 e he (by simpa using q)
 ·rw [List.length_set]
  rcases List.mem_append.1 hj with q | q
  ·exact hp.fl j q
  ·have : j = i.toNat := by simpa using q
   rw [this]; exact k2
 ·refine List.nodup_append.2 ⟨hp.nd, by simp, fun a ha b hb q => ?_⟩
  have : b = i.toNat := by simpa using hb
  subst this
  subst q
  exact k3 ha
theorem room_new (hs : SortE es) (hp : PlaceOk es cs fr) (hg : getE key es = none) (hl : cs.length ≤ cs'.length) (hn : n < cs'.length) (hv : cs'[n]? = some vs) (he : ∀ e ∈ es, e.2.toNat ≠ n ∧ cs'[e.2.toNat]? = cs[e.2.toNat]?) {fr' : List Nat} (hf : ∀ j ∈ fr', j ∈ fr ∧ j ≠ n) (hnd : fr'.Nodup) :
  roomL (putE key (n : Int) es) cs' = G.put key vs (roomL es cs) ∧ PlaceOk (putE key (n : Int) es) cs' fr' := by
 obtain ⟨A, o, B, hc⟩ := G.cut_ex (L := es) hs key
 have ho : o = none := by rw [← hc.get]; exact hg
 subst ho
 have hes : es = A ++ B := by rw [hc.eq]; simp
 have hd : putE key (n : Int) es = A ++ (key, (n : Int)) :: B := hc.put
 rw [hd]
 have hin : ∀ e ∈ A ++ B, e ∈ es := fun e h => by rw [hes]; exact h
 have hcg : ∀ e ∈ A ++ B, atC cs' e.2 = atC cs e.2 := fun e h => by
  unfold atC; rw [(he e (hin e h)).2]
 refine ⟨?_, ⟨fun e h => ?_, ?_, fun j hj => Nat.lt_of_lt_of_le (hp.fl j (hf j hj).1) hl, hnd⟩⟩
 ·rw [(room_cut hc).put]
  unfold roomL
  rw [List.map_append, List.map_cons]
  have e1 : A.map (fun e => (e.1, atC cs' e.2)) = A.map (fun e => (e.1, atC cs e.2)) := List.map_congr_left fun e h => by rw [hcg e (by simp [h])]
  have e2 : B.map (fun e => (e.1, atC cs' e.2)) = B.map (fun e => (e.1, atC cs e.2)) := List.map_congr_left fun e h => by rw [hcg e (by simp [h])]
  rw [e1, e2]
  have : atC cs' (n : Int) = vs := by unfold atC; rw [Int.toNat_natCast, hv]; rfl
  rw [this]
 ·have hcase : e = (key, (n : Int)) ∨ e ∈ A ++ B := by
   rcases List.mem_append.1 h with h | h
   ·exact .inr (by simp [h])
   ·rcases List.mem_cons.1 h with h | h
    ·exact .inl h
    ·exact .inr (by simp [h])
  rcases hcase with rfl | h
  ·refine ⟨by show (0 : Int) ≤ (n : Int); omega, by show (n : Int).toNat < _; rw [Int.toNat_natCast]; exact hn, fun q => ?_⟩
   exact (hf _ q).2 (by show (n : Int).toNat = n; rw [Int.toNat_natCast])
  ·obtain ⟨q1, q2, q3⟩ := hp.lt e (hin e h)
   exact ⟨q1, Nat.lt_of_lt_of_le q2 hl, fun q => q3 (hf _ q).1⟩
 ·rw [List.map_append, List.map_cons]
  have hn2 := hp.inj
  rw [hes, List.map_append] at hn2
  obtain ⟨n1, n2, n3⟩ := List.nodup_append.1 hn2
  have hne : ∀ e ∈ A ++ B, e.2 ≠ (n : Int) := fun e h q => (he e (hin e h)).1 (by rw [q, Int.toNat_natCast])
  refine List.nodup_append.2 ⟨n1, List.nodup_cons.2 ⟨fun q => ?_, n2⟩, fun a ha b hb q => ?_⟩
  ·obtain ⟨e, h, q⟩ := List.mem_map.1 q
   exact hne e (by simp [h]) q
  ·rcases List.mem_cons.1 hb with hb | hb
   ·obtain ⟨e, h, q2⟩ := List.mem_map.1 ha
    exact hne e (by simp [h]) (by rw [q2, q, hb])
   ·exact n3 a ha b hb q
end
def liveL (L : RL) : Int := G.sum (fun k vs => (livesN k vs : Int)) L
def cntL (L : RL) : Int := G.sum (fun k vs => min (livesN k vs : Int) 1) L
def verL (L : RL) : Int := G.sum (fun _ vs => (vs.length : Int)) L
structure OkV (vs : List Ver) : Prop where
 ok : Chn.okC 0 vs = true
 wf : ∀ x ∈ vs, x.Wf
 len : vs.length ≤ 900
abbrev OkL (L : RL) : Prop := ∀ x ∈ L, OkV x.2 ∧ x.1.size ≤ 32
theorem OkV.nil : OkV [] := ⟨rfl, by simp, by simp⟩
section
variable {L : RL} {key : Key} {vs : List Ver} {f : Key → List Ver → Int} {b : Int}
theorem sum_bound (h : ∀ x ∈ L, 0 ≤ f x.1 x.2 ∧ f x.1 x.2 ≤ b) : 0 ≤ G.sum f L ∧ G.sum f L ≤ L.length * b := by
 induction L with
 | nil => simp [G.sum]
 | cons x L ih =>
  obtain ⟨i1, i2⟩ := ih fun y hy => h y (by simp [hy])
  obtain ⟨h1, h2⟩ := h x (by simp)
  rw [G.sum_cons, List.length_cons]
  have : ((L.length + 1 : Nat) : Int) * b = L.length * b + b := by rw [Int.natCast_add, Int.add_mul]; simp
  omega
theorem lives_le (hk : key.size ≤ 32) : livesN key vs ≤ 97 := by
 have := wgt_le (vs := vs)
 unfold livesN
 split <;> omega
theorem live_bound (h : OkL L) : 0 ≤ liveL L ∧ liveL L ≤ L.length * 97 := sum_bound fun x hx => by
 have := lives_le (vs := x.2) (h x hx).2
 omega
theorem cnt_bound (h : OkL L) : 0 ≤ cntL L ∧ cntL L ≤ L.length * 1 := sum_bound fun x hx => by
 have : (0 : Int) ≤ (livesN x.1 x.2 : Int) := by omega
 omega
theorem ver_bound (h : OkL L) : 0 ≤ verL L ∧ verL L ≤ L.length * 900 := sum_bound fun x hx => by
 have := (h x hx).1.len
 omega
theorem has_ok (hs : G.Srt L) (h : OkL L) : OkV (hasG key L) := by
 unfold hasG
 cases hq : G.get key L with
 | none => exact OkV.nil
 | some vs => exact (h _ (G.get_mem hs hq)).1
theorem lay_ok (hs : G.Srt L) (h : OkL L) (hv : OkV vs) (hk : key.size ≤ 32) : OkL (layL key vs L) := by
 obtain ⟨A, o, B, hc⟩ := G.cut_ex hs key
 have hsub : ∀ x, x ∈ A ∨ x ∈ B → x ∈ L := fun x hx => by rw [hc.eq]; rcases hx with hx | hx <;> simp [hx]
 unfold layL
 split
 ·rw [hc.del]
  exact fun x hx => h x (hsub x (List.mem_append.1 hx))
 ·rw [hc.put]
  intro x hx
  rcases List.mem_append.1 hx with hx | hx
  ·exact h x (hsub x (.inl hx))
  ·rcases List.mem_cons.1 hx with rfl | hx
   ·exact ⟨hv, hk⟩
   ·exact h x (hsub x (.inr hx))
theorem lay_sort (hs : G.Srt L) : G.Srt (layL key vs L) := by
 unfold layL
 split
 ·exact G.del_sort hs
 ·exact G.put_sort hs
theorem lay_sum (hs : G.Srt L) (h0 : f key [] = 0) : G.sum f (layL key vs L) = G.sum f L - f key (hasG key L) + f key vs := by
 have e : ((G.get key L).map (f key)).getD 0 = f key (hasG key L) := by
  unfold hasG
  cases G.get key L with
  | none => exact h0.symm
  | some w => rfl
 unfold layL
 split
 ·rename_i hv
  rw [G.del_sum hs, e, hv, h0]; omega
 ·rw [G.put_sum hs, e]
theorem lay_len (hs : G.Srt L) : (layL key vs L).length ≤ L.length + 1 := by
 obtain ⟨A, o, B, hc⟩ := G.cut_ex hs key
 have : L.length = A.length + o.toList.length + B.length := by rw [hc.eq]; simp; omega
 unfold layL
 split
 ·rw [hc.del, List.length_append]; omega
 ·rw [hc.put, List.length_append, List.length_cons]; omega
end
structure RoomC (σ : Nat → Tag) (m : Mem) (r rp tp : Nat) (vl vc vf : Value) (rs qt ms begin seq : Int) (st : List Int) (es : List Ent) (k : Nat) (vals : List Value) (cs : List (List Ver)) (fr : List Nat) (L : RL) (c : Nat) : Prop where
 mem : RoomM σ m r rp tp vl vc vf rs qt ms (liveL L) (cntL L) (verL L) begin seq st es k vals cs fr
 place : PlaceOk es cs fr
 rel : roomL es cs = L
 ok : OkL L
 kc : k ≤ c
 csc : cs.length ≤ c
def RoomP (σ : Nat → Tag) (m : Mem) (r : Nat) (vl : Value) (rs qt ms begin seq : Int) (st : List Int) (L : RL) (c : Nat) : Prop := ∃ rp tp vc vf es k vals cs fr, RoomC σ m r rp tp vl vc vf rs qt ms begin seq st es k vals cs fr L c
section
variable {σ σ' : Nat → Tag} {t : Tag} {m m' : Mem} {r rp tp : Nat} {vl vc vf : Value} {rs qt ms live cnt ver begin seq : Int} {st : List Int} {es : List Ent} {k : Nat} {vals : List Value} {cs : List (List Ver)} {fr : List Nat} {key : Key} {v : Value} {vs : List Ver} {L : RL} {c : Nat}
theorem RoomC.sort (h : RoomC σ m r rp tp vl vc vf rs qt ms begin seq st es k vals cs fr L c) : SortE es ∧ G.Srt L ∧ L.length = es.length ∧ es.length ≤ k := by
 have h1 := h.mem.tree.sort
 exact ⟨h1, by rw [← h.rel]; exact room_sort h1, by rw [← h.rel]; simp [roomL], h.mem.tree.len⟩
theorem wr {a : Int} (h1 : -4611686018427387904 ≤ a) (h2 : a ≤ 4611686018427387904) : IntKind.i64.wrap a = a := wrap_i64 (by omega) (by omega)
theorem lay_pre (h : RoomC σ m r rp tp vl vc vf rs qt ms begin seq st es k vals cs fr L c) (hc : c ≤ 3900) (hv : ChV σ m v vs) (hvs : OkV vs) (hk : key.size ≤ 32) :
  ∃ v0 q0 c0 q1 c1 mA mB mC mD mE, Ca 18 [Pt r, .string key] m v0 m ∧ v0 = .slice q0 (hasG key L).length c0 ∧ v = .slice q1 vs.length c1 ∧
   storeE m 1 (.pointer (some ⟨r, 10, none⟩)) (I (verL (layL key vs L))) = some (.skip mA) ∧
   Ca 32 [.string key, v0] mA (I (livesN key (hasG key L) : Int)) mB ∧ Ca 32 [.string key, v] mB (I (livesN key vs : Int)) mC ∧
   storeE mC 1 (.pointer (some ⟨r, 8, none⟩)) (I (liveL (layL key vs L))) = some (.skip mD) ∧ storeE mD 1 (.pointer (some ⟨r, 9, none⟩)) (I (cntL (layL key vs L))) = some (.skip mE) ∧
   (∃ live cnt ver, mC.get r = some { cells := [vl, I rs, I qt, I ms, Pt rp, Pt tp, vc, vf, I live, I cnt, I ver], rw := true, spare := none, kin := [] } ∧ live = liveL L ∧ cnt = cntL L) ∧
   (∃ ver, mD.get r = some { cells := [vl, I rs, I qt, I ms, Pt rp, Pt tp, vc, vf, I (liveL (layL key vs L)), I (cntL L), I ver], rw := true, spare := none, kin := [] }) ∧
   RoomM σ mE r rp tp vl vc vf rs qt ms (liveL (layL key vs L)) (cntL (layL key vs L)) (verL (layL key vs L)) begin seq st es k vals cs fr ∧ ChV σ mE v vs ∧ GrR σ σ m mE ∧
   Ca 39 [Pt tp, .string key] mE (.tuple #[I ((getE key es).getD 0), .bool (getE key es).isSome]) mE := by
 obtain ⟨s1, s2, s3, s4⟩ := h.sort
 obtain ⟨v0, a1, a2, a3⟩ := chain_spec (key := key) h.mem h.place
 have hch : chainOf es cs key = hasG key L := by rw [← h.rel]; exact (room_get s1).symm
 rw [hch] at a2
 have hok := has_ok (key := key) s2 h.ok
 obtain ⟨q0, c0, e0⟩ := a2.slice
 obtain ⟨q1, c1, e1⟩ := hv.slice
 obtain ⟨mA, b1, b2, b3⟩ := h.mem.num (i := 10) (x := verL (layL key vs L)) (live' := liveL L) (cnt' := cntL L) (ver' := verL (layL key vs L)) (by omega) rfl
 obtain ⟨mB, d1, d2⟩ := lives_spec (key := key) (a2.ch b3 (by simp)) hok.wf (by have := hok.len; omega) (by omega)
 have vB := (hv.ch b3 (by simp)).nx d2
 obtain ⟨mC, f1, f2⟩ := lives_spec (key := key) vB hvs.wf (by have := hvs.len; omega) (by omega)
 have hC := (b2.nx d2).nx f2
 obtain ⟨mD, g1, g2, g3⟩ := hC.num (i := 8) (x := liveL (layL key vs L)) (live' := liveL (layL key vs L)) (cnt' := cntL L) (ver' := verL (layL key vs L)) (by omega) rfl
 obtain ⟨mE, i1, i2, i3⟩ := g2.num (i := 9) (x := cntL (layL key vs L)) (live' := liveL (layL key vs L)) (cnt' := cntL (layL key vs L)) (ver' := verL (layL key vs L)) (by omega) rfl
 exact ⟨v0, q0, c0, q1, c1, mA, mB, mC, mD, mE, a1, e0, e1, b1, d1, f1, g1, i1, ⟨_, _, _, hC.get, rfl, rfl⟩, ⟨_, g2.get⟩, i2, ((vB.nx f2).ch g3 (by simp)).ch i3 (by simp), (GrR.ch b3 rfl).trans ((GrR.nx d2).trans ((GrR.nx f2).trans ((GrR.ch g3 rfl).trans (GrR.ch i3 rfl)))), Get_spec i2.tree⟩
end
section
variable {σ σ' : Nat → Tag} {t : Tag} {m m' : Mem} {r rp tp : Nat} {vl vc vf : Value} {rs qt ms live cnt ver begin seq : Int} {st : List Int} {es : List Ent} {k : Nat} {vals : List Value} {cs : List (List Ver)} {fr : List Nat} {key : Key} {v : Value} {vs : List Ver} {L : RL} {c : Nat}
theorem ix {n c i : Nat} {a : Addr} (h : i < n) (M : Mem) : indexAddrE M 1 (.slice (some a) n c) (I (i : Int)) = some (.val (.pointer (some ⟨a.block, a.off + i, none⟩)) M) := by
 have := indexAddr_at (m := M) (size := 1) (i := i) (len := n) (c := c) (a := a) (kd := .i64) h
 rw [Nat.mul_one] at this
 exact this
theorem PlaceOk.frlen (h : PlaceOk es cs fr) : fr.length ≤ cs.length := nodup_le h.nd h.fl
theorem bslice1 {m : Mem} {q : Option Addr} {n c : Nat} : buildSliceE m [.slice none 0 0] 1 1 [(0, .slice q n c)] = some (.val (.slice (some ⟨m.next, 0, none⟩) 1 1) (m.push { cells := [.slice q n c], rw := true, spare := none, kin := [] })) := buildSlice_one rfl
theorem lay_spec (h : RoomC σ m r rp tp vl vc vf rs qt ms begin seq st es k vals cs fr L c) (hc : c ≤ 3900) (hv : ChV σ m v vs) (hvs : OkV vs) (hk : key.size ≤ 32) :
  ∃ m' σ' d, Ca 21 [Pt r, .string key, v] m (.tuple #[]) m' ∧ RoomP σ' m' r vl rs qt ms begin seq st (layL key vs L) (c + d) ∧ GrR σ σ' m m' ∧ d ≤ 1 ∧ ((G.get key L).isSome = true → d = 0) := by
 obtain ⟨s1, s2, s3, s4⟩ := h.sort
 have hkc := h.kc
 have hcsc := h.csc
 have hfl := h.place.frlen
 obtain ⟨v0, q0, c0, q1, c1, mA, mB, mC, mD, mE, a1, e0, e1, b1, d1, f1, g1, i1, ⟨_, _, _, gC, rfl, rfl⟩, ⟨_, gD⟩, hE, vE, gE, hget⟩ := lay_pre h hc hv hvs hk
 have hok := has_ok (key := key) s2 h.ok
 have hlo := lay_ok s2 h.ok hvs hk
 have hll := lay_len (key := key) (vs := vs) s2
 obtain ⟨vb1, vb2⟩ := ver_bound h.ok
 obtain ⟨lb1, lb2⟩ := live_bound h.ok
 obtain ⟨cb1, cb2⟩ := cnt_bound h.ok
 have l1 := hok.len
 have l2 := hvs.len
 have n1 := lives_le (vs := vs) hk
 have n2 := lives_le (vs := hasG key L) hk
 have w1 : IntKind.i64.wrap ((vs.length : Int) - ((hasG key L).length : Int)) = (vs.length : Int) - ((hasG key L).length : Int) := wr (by omega) (by omega)
 have w2 : IntKind.i64.wrap (verL L + ((vs.length : Int) - ((hasG key L).length : Int))) = verL (layL key vs L) := by
  rw [wr (by omega) (by omega)]
  have : verL (layL key vs L) = verL L - ((hasG key L).length : Int) + (vs.length : Int) := lay_sum (f := fun _ vs => (vs.length : Int)) s2 rfl
  omega
 have w3 : IntKind.i64.wrap ((livesN key vs : Int) - (livesN key (hasG key L) : Int)) = (livesN key vs : Int) - (livesN key (hasG key L) : Int) := wr (by omega) (by omega)
 have w4 : IntKind.i64.wrap (liveL L + ((livesN key vs : Int) - (livesN key (hasG key L) : Int))) = liveL (layL key vs L) := by
  rw [wr (by omega) (by omega)]
  have : liveL (layL key vs L) = liveL L - (livesN key (hasG key L) : Int) + (livesN key vs : Int) := lay_sum (f := fun k vs => (livesN k vs : Int)) s2 rfl
  omega
 have w5 : IntKind.i64.wrap (min (livesN key vs : Int) 1 - min (livesN key (hasG key L) : Int) 1) = min (livesN key vs : Int) 1 - min (livesN key (hasG key L) : Int) 1 := wr (by omega) (by omega)
 have w6 : IntKind.i64.wrap (cntL L + (min (livesN key vs : Int) 1 - min (livesN key (hasG key L) : Int) 1)) = cntL (layL key vs L) := by
  rw [wr (by omega) (by omega)]
  have : cntL (layL key vs L) = cntL L - min (livesN key (hasG key L) : Int) 1 + min (livesN key vs : Int) 1 := lay_sum (f := fun k vs => min (livesN k vs : Int) 1) s2 rfl
  omega
 have gm := h.mem.get
 have gE' := hE.get
 subst e0 e1
 cases hq : getE key es with
 | some i =>
  rw [hq] at hget
  obtain ⟨p1, p2, p3⟩ := h.place.lt _ (getE_mem hq)
  have p1' : 0 ≤ i := p1
  have p2' : i.toNat < cs.length := p2
  have ei : i = (i.toNat : Int) := by omega
  obtain ⟨n, hn⟩ : ∃ n, i.toNat = n := ⟨_, rfl⟩
  rw [hn] at ei p2'
  subst ei
  by_cases h0 : vs = []
  ·
   subst h0
   simp only [List.length_nil, Int.ofNat_zero] at w1 w2 f1
   obtain ⟨mF, σF, j1, j2, j3⟩ := Del_spec (key := key) hE.tree (by omega)
   rw [hq] at j1
   have hF := hE.tree2 j3 j2
   obtain ⟨a, ca, mG, o1, o2, o3, o4, o5⟩ := hF.set (i := n) p2' ChV.nil
   obtain ⟨mH, hH⟩ : ∃ mH, mG.push { cells := [nv n], rw := true, spare := none, kin := [] } = mH := ⟨_, rfl⟩
   have fH : Nx mG mH := hH ▸ .push
   have h4 := o4.nx fH
   obtain ⟨Ff, of1, of2⟩ := h4.fre
   have ho : OwnX [mG.next] mH (.slice (some ⟨mG.next, 0, none⟩) 1 1) [nv n] := hH ▸ own_one
   obtain ⟨vf', mI, F', t1, t2, t3, t4, t5⟩ := of1.append (bytes := 8) (zero := I 0) (ys := [nv n]) ho.rd (by rw [List.length_map]; simp; omega) (by omega)
   have eF : fr.map nv ++ [nv n] = (fr ++ [n]).map nv := by simp
   rw [eF] at t2
   obtain ⟨σI, k1, k2⟩ := tag_of (σ := σF) (t := .other 14) of2 t2 t3 t5 of1.lt
   obtain ⟨mJ, u1, u2, u3⟩ := h4.stf k2 k1
   obtain ⟨y1, y2⟩ := room_del (key := key) s1 h.place hq
   rw [hn] at y1 y2
   have hL : layL key [] L = G.del key (roomL es cs) := by unfold layL; rw [if_pos rfl, h.rel]
   refine ⟨mJ, σI, 0, callX_of (call_go (F := _) rfl rfl fun Q hQ => ?_), ⟨rp, tp, vc, vf', _, k, _, _, _, u2, y2, by rw [hL]; exact y1, hlo, by omega, by rw [List.length_set]; omega⟩, gE.trans ((GrR.gr j3).trans ((GrR.ch o5 rfl).trans ((GrR.nx fH).trans u3))), by omega, fun _ => rfl⟩
   have B1 := bone73 (m := mG) (x := (n : Int))
   rw [hH] at B1
   have gF := hF.get
   have gG := o4.get
   subst o1
   simp only [symA, symB, wantedX, X.put, X.look, Arg.ev, keepOf, restrict, evs, initEnv, noTup, Nat.reduceAdd, Nat.reduceEqDiff, ↓reduceIte, reduceCtorEq, goInt, eq_self, goR_call a1, gm, w1, w2, b1, goR_call d1, goR_call f1, gC, w3, w4, g1, gD, w5, w6, i1, gE', goR_call hget, Option.isSome_some, Option.getD_some, goR_call j1, gF, ix o2, o3, gG, B1, t1, u1]
   exact hQ _ _ _ rfl ⟨rfl, rfl⟩
  ·
   have h0' : ¬ (vs.length : Int) = 0 := by
    have := List.length_pos_iff.2 h0; omega
   obtain ⟨a, ca, mG, o1, o2, o3, o4, o5⟩ := hE.set (i := n) p2' vE
   obtain ⟨y1, y2⟩ := room_set (key := key) (vs := vs) s1 h.place hq
   rw [hn] at y1 y2
   have hL : layL key vs L = G.put key vs (roomL es cs) := by unfold layL; rw [if_neg h0, h.rel]
   refine ⟨mG, σ, 0, callX_of (call_go (F := _) rfl rfl fun Q hQ => ?_), ⟨rp, tp, vc, vf, _, k, _, _, _, o4, y2, by rw [hL]; exact y1, hlo, by omega, by rw [List.length_set]; omega⟩, gE.trans (GrR.ch o5 rfl), by omega, fun _ => rfl⟩
   subst o1
   simp only [symA, symB, wantedX, X.put, X.look, Arg.ev, keepOf, restrict, evs, initEnv, Nat.reduceAdd, Nat.reduceEqDiff, ↓reduceIte, reduceCtorEq, goInt, eq_self, goR_call a1, gm, w1, w2, b1, goR_call d1, goR_call f1, gC, w3, w4, g1, gD, w5, w6, i1, gE', goR_call hget, Option.isSome_some, Option.getD_some, h0', ix o2, o3]
   exact hQ _ _ _ rfl ⟨rfl, rfl⟩
 | none =>
  rw [hq] at hget
  have hgo : (G.get key L).isSome = false := by
   obtain ⟨A, o, B, hc⟩ := G.cut_ex (L := es) s1 key
   have ho : o = none := by rw [← hc.get]; exact hq
   subst ho
   rw [← h.rel, (room_cut hc).get]; rfl
  have hgo' : ∀ d : Nat, (G.get key L).isSome = true → d = 0 := fun d q => by rw [hgo] at q; cases q
  have hgn : hasG key L = [] := by
   have := room_get (cs := cs) (key := key) s1
   rw [h.rel] at this
   rw [this]
   unfold chainOf
   rw [hq]
  by_cases h0 : vs = []
  ·
   subst h0
   simp only [List.length_nil, Int.ofNat_zero] at w1 w2 f1
   have hL : layL key [] L = L := by
    obtain ⟨A, o, B, hc⟩ := G.cut_ex s2 key
    have ho : o = none := by
     have := hc.get
     rw [← h.rel, (room_cut (cs := cs) (show G.Cut key es _ _ _ from (G.cut_ex (L := es) s1 key).choose_spec.choose_spec.choose_spec)).get] at this
     rw [← this, ← (G.cut_ex (L := es) s1 key).choose_spec.choose_spec.choose_spec.get, show G.get key es = none from hq]
     rfl
    unfold layL
    rw [if_pos rfl, hc.del]
    subst ho
    rw [hc.eq]; simp
   refine ⟨mE, σ, 1, callX_of (call_go (F := _) rfl rfl fun Q hQ => ?_), ⟨rp, tp, vc, vf, es, k, vals, cs, fr, hE, h.place, by rw [hL]; exact h.rel, hlo, by omega, by omega⟩, gE, by omega, hgo' 1⟩
   simp only [symA, symB, wantedX, X.put, X.look, Arg.ev, keepOf, restrict, evs, initEnv, Nat.reduceAdd, Nat.reduceEqDiff, ↓reduceIte, reduceCtorEq, goInt, eq_self, Int.reduceLT, undef, goR_call a1, gm, w1, w2, b1, goR_call d1, goR_call f1, gC, w3, w4, g1, gD, w5, w6, i1, gE', goR_call hget, Option.isSome_none, Option.getD_none]
   exact hQ _ _ _ rfl ⟨rfl, rfl⟩
  ·have h0' : (0 : Int) < (vs.length : Int) := by
    have := List.length_pos_iff.2 h0; omega
   have hL : layL key vs L = G.put key vs (roomL es cs) := by unfold layL; rw [if_neg h0, h.rel]
   obtain ⟨qf, cf, hvf⟩ := hE.fre.slice
   rw [List.length_map] at hvf
   by_cases hfr : fr = []
   ·
    subst hfr
    obtain ⟨mF, σF, j1, j2, j3⟩ := Put_spec (key := key) (x := (cs.length : Int)) hE.tree (by omega)
    rw [hq] at j1
    have hF := hE.tree2 j3 j2
    have vF := vE.gr j3
    obtain ⟨qc, cc, hvc⟩ := hE.chn.slice
    obtain ⟨mG, hG⟩ : ∃ mG, mF.push { cells := [.slice q1 vs.length c1], rw := true, spare := none, kin := [] } = mG := ⟨_, rfl⟩
    have fG : Nx mF mG := hG ▸ .push
    have hG4 := hF.nx fG
    obtain ⟨Fc, of1, of2⟩ := hG4.chn
    have ho : OwnX [mF.next] mG (.slice (some ⟨mF.next, 0, none⟩) 1 1) [.slice q1 vs.length c1] := hG ▸ own_one
    have hvl := hF.cs.1
    obtain ⟨vc', mI, F', t1, t2, t3, t4, t5⟩ := of1.append (bytes := 24) (zero := .slice none 0 0) (ys := [.slice q1 vs.length c1]) ho.rd (by rw [hvl]; simp; omega) (by omega)
    obtain ⟨σI, k1, k2⟩ := tag_of (σ := σF) (t := .other 13) of2 t2 t3 t5 of1.lt
    have hcs : ChsV σI mI (vals ++ [.slice q1 vs.length c1]) (cs ++ [vs]) := by
     refine ⟨by rw [List.length_append, List.length_append, hvl]; rfl, fun j w ws hw hws => ?_⟩
     by_cases hj : j < cs.length
     ·rw [List.getElem?_append_left (by omega)] at hw hws
      exact (hG4.cs.2 j w ws hw hws).ch k2 (by simp)
     ·have hje : j = cs.length := by
       have := (List.getElem?_eq_some_iff.1 hws).1
       rw [List.length_append, List.length_singleton] at this
       omega
      subst hje
      rw [List.getElem?_append_right (by omega), hvl, Nat.sub_self] at hw
      rw [List.getElem?_append_right (by omega), Nat.sub_self] at hws
      cases hw; cases hws
      exact (vF.nx fG).ch k2 (by simp)
    obtain ⟨mJ, u1, u2, u3⟩ := hG4.stc k2 k1 hcs
    obtain ⟨y1, y2⟩ := room_new (key := key) (vs := vs) (n := cs.length) (cs' := cs ++ [vs]) s1 h.place hq (by simp) (by simp) (by rw [List.getElem?_append_right (by omega), Nat.sub_self]; rfl) (fun e he => by
     have := (h.place.lt e he).2.1
     exact ⟨by omega, List.getElem?_append_left this⟩) (fr' := []) (by simp) (by simp)
    refine ⟨mJ, σI, 1, callX_of (call_go (F := _) rfl rfl fun Q hQ => ?_), ⟨rp, tp, vc', vf, _, _, _, _, _, u2, y2, by rw [hL]; exact y1, hlo, by omega, by rw [List.length_append]; simp; omega⟩, gE.trans ((GrR.gr j3).trans ((GrR.nx fG).trans u3)), by omega, hgo' 1⟩
    have B1 := bslice1 (m := mF) (q := q1) (n := vs.length) (c := c1)
    rw [hG] at B1
    have gF := hF.get
    rw [h.mem.cs.1] at hvc
    subst hvf hvc
    simp only [List.length_nil] at gE' gm gC gD gF t1
    simp only [symA, go_opsd, symB, wantedX, X.put, X.look, Arg.ev, keepOf, restrict, evs, initEnv, noTup, cls, quiet, Nat.reduceAdd, Nat.reduceEqDiff, ↓reduceIte, reduceCtorEq, goInt, eq_self, undef, Nat.reducePow, Nat.reduceDiv, Nat.reduceMod, goR_call a1, gm, w1, w2, b1, goR_call d1, goR_call f1, gC, w3, w4, g1, gD, w5, w6, i1, gE', goR_call hget, Option.isSome_none, Option.getD_none, h0', Int.lt_irrefl, goDV3c j1, gF, B1, t1, u1]
    exact hQ _ _ _ rfl ⟨rfl, rfl⟩
   ·
    obtain ⟨fr', n, rfl⟩ : ∃ fr' n, fr = fr' ++ [n] := ⟨fr.dropLast, fr.getLast hfr, (List.dropLast_concat_getLast hfr).symm⟩
    have hnc : n < cs.length := h.place.fl n (by simp)
    have hnd := List.nodup_append.1 h.place.nd
    have hfl' : (fr' ++ [n]).length = fr'.length + 1 := by simp
    obtain ⟨Ff, of1, of2⟩ := hE.fre
    obtain ⟨af, cf', off, z1, z2, z3⟩ := rd_at of1.rd (i := fr'.length) (x := nv n) (by rw [List.getElem?_map, List.getElem?_append_right (Nat.le_refl _), Nat.sub_self]; rfl)
    rw [List.length_map, hfl'] at z1
    rw [hfl'] at hvf hfl
    rw [z1] at hvf
    cases hvf
    have htag : Tg σ (.other 14) mE vf ((fr' ++ [n]).map nv) := ⟨Ff, of1, of2⟩
    obtain ⟨vf', x1, x2⟩ := htag.to (k := fr'.length) (by rw [List.length_map, hfl']; omega)
    have ex : ((fr' ++ [n]).map nv).take fr'.length = fr'.map nv := by rw [← List.map_take, List.take_left' rfl]
    rw [ex] at x2
    obtain ⟨mF, u1, u2, u3⟩ := hE.stf .refl x2
    have vF := vE.grR u3
    obtain ⟨a, ca, mG, o1, o2, o3, o4, o5⟩ := u2.set (i := n) hnc vF
    obtain ⟨mH, σH, j1, j2, j3⟩ := Put_spec (key := key) (x := (n : Int)) o4.tree (by omega)
    rw [hq] at j1
    have hH := o4.tree2 j3 j2
    obtain ⟨y1, y2⟩ := room_new (key := key) (vs := vs) (n := n) (cs' := cs.set n vs) s1 h.place hq (by simp) (by rw [List.length_set]; exact hnc) (List.getElem?_set_self hnc) (fun e he => by
     have h3 := (h.place.lt e he).2.2
     have hne : e.2.toNat ≠ n := fun q => h3 (by rw [q]; simp)
     exact ⟨hne, List.getElem?_set_ne (Ne.symm hne)⟩) (fr' := fr') (fun j hj => ⟨by simp [hj], fun q => hnd.2.2 j hj n (by simp) q⟩) hnd.1
    refine ⟨mH, σH, 1, callX_of (call_go (F := _) rfl rfl fun Q hQ => ?_), ⟨rp, tp, vc, vf', _, _, _, _, _, hH, y2, by rw [hL]; exact y1, hlo, by omega, by rw [List.length_set]; omega⟩, gE.trans (u3.trans ((GrR.ch o5 rfl).trans (GrR.gr j3))), by omega, hgo' 1⟩
    have wf1 : IntKind.i64.wrap (((fr'.length + 1 : Nat) : Int) - 1) = ((fr'.length : Nat) : Int) := by rw [wrap_i64 (by omega) (by omega)]; omega
    have hpos : (0 : Int) < ((fr'.length + 1 : Nat) : Int) := by omega
    have gF := u2.get
    have gG := o4.get
    subst z1 o1
    simp only [symA, go_opsd, symB, wantedX, X.put, X.look, Arg.ev, keepOf, restrict, evs, evO, initEnv, cls, quiet, Nat.reduceAdd, Nat.reduceEqDiff, ↓reduceIte, reduceCtorEq, goInt, eq_self, undef, Nat.reducePow, Nat.reduceDiv, Nat.reduceMod, goR_call a1, gm, w1, w2, b1, goR_call d1, goR_call f1, gC, w3, w4, g1, gD, w5, w6, i1, gE', goR_call hget, Option.isSome_none, Option.getD_none, h0', hpos, wf1, ix (show fr'.length < fr'.length + 1 by omega), z2, z3, x1, u1, gF, ix o2, o3, gG, goR_call j1]
    exact ⟨by obtain ⟨q, cc, e⟩ := x2.slice; rw [e]; exact veq_slice, hQ _ _ _ rfl ⟨rfl, rfl⟩⟩
end
end Go.Proofs.Ytnlmnejellipdaa
