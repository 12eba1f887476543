/-
  Own work. The document's search through labels.
-/
import Derived.Test.YtfjeccaffenngaaH3
namespace Go.Proofs.Ytfjeccaffenngaa
open Go X
set_option maxRecDepth 100000
set_option linter.unusedVariables false
set_option linter.unusedSimpArgs false

structure SprAt (m : Mem) (lo f : Nat) (F G : List Nat) (ov sv : Value) (vals : List Value) (out : List Nat) : Prop where
  own : Own3 1 F m ov (vals.map fun x => [x])
  st : Own3 1 G m sv ((out.map fun x => I (dist f x : Nat)).map fun x => [x])
  len : vals.length = out.length
  elt : ∀ (j x : Nat) (v : Value), out[j]? = some x → vals[j]? = some v → RdU m.next m v (labN x) ∧ ∀ (a : Addr) (n c : Nat), v = .slice (some a) n c → n ≠ 0 → a.block < m.next ∧ a.block ∉ F ∧ a.block ∉ G
  lowF : ∀ x ∈ F, lo ≤ x
  lowG : ∀ x ∈ G, lo ≤ x
  dis : ∀ x ∈ F, x ∉ G

section
variable {m m' : Mem} {lo f : Nat} {F G : List Nat} {ov sv : Value} {vals : List Value} {out : List Nat}
theorem SprAt.nx (h : SprAt m lo f F G ov sv vals out) (hf : Nx m m') : SprAt m' lo f F G ov sv vals out :=
  ⟨h.own.fr hf (fun _ _ h => h), h.st.fr hf (fun _ _ h => h), h.len, fun j x v h1 h2 => ⟨(h.elt j x v h1 h2).1.fr2 hf (Nat.le_refl _) (fun _ _ _ _ _ h => h), fun a n c hv hn => by
    obtain ⟨k1, k2, k3⟩ := (h.elt j x v h1 h2).2 a n c hv hn
    exact ⟨Nat.lt_of_lt_of_le k1 hf.next, k2, k3⟩⟩, h.lowF, h.lowG, h.dis⟩
theorem SprAt.rooms (h : SprAt m lo f F G ov sv vals out) : RdRooms m.next m ov (out.map labN) := by
  refine ⟨vals, by rw [List.length_map]; exact h.len, h.own.rd (by omega), fun i ns hi => ?_⟩
  rw [List.getElem?_map, Option.map_eq_some_iff] at hi
  obtain ⟨x, hx, rfl⟩ := hi
  have hlt := (List.getElem?_eq_some_iff.1 hx).1
  have hl := h.len
  exact ⟨_, List.getElem?_eq_getElem (by omega), (h.elt i x _ hx (List.getElem?_eq_getElem (by omega))).1⟩
theorem SprAt.step (h : SprAt m lo f F G ov sv vals out) {i x : Nat} (hx : out[i]? = some x) : ∃ a c o, sv = .slice (some a) out.length c ∧ m.get a.block = some o ∧ o.cells[a.off + i]? = some (I (dist f x : Nat)) := by
  have := (h.st.rd (by omega)).at1 (i := i) (x := I (dist f x : Nat)) (by simp [hx])
  simpa using this
theorem SprAt.push (h : SprAt m lo f F G ov sv vals out) {vx : Value} {x y i : Nat} (hy : RdU m.next m vx (labN y)) (hya : ∀ (a : Addr) (n c : Nat), vx = .slice (some a) n c → n ≠ 0 → a.block < m.next ∧ a.block ∉ F ∧ a.block ∉ G) (hlo : lo ≤ m.next)
    (hl : out.length ≤ 256) (hx : out[i]? = some x) :
    ∃ m2 v' m3 a c o m4 v'' m5 F' G', buildSliceE m [.slice none 0 0] 1 1 [(0, vx)] = some (.val (.slice (some ⟨m.next, 0, none⟩) 1 1) m2) ∧ appendE m2 1 24 [.slice none 0 0] ov (.slice (some ⟨m.next, 0, none⟩) 1 1) = some (.val v' m3) ∧
      (sv = .slice (some a) out.length c ∧ m3.get a.block = some o ∧ o.cells[a.off + i]? = some (I (dist f x : Nat))) ∧
      buildSliceE m3 [I 0] 1 1 [(0, I (dist f y : Nat))] = some (.val (.slice (some ⟨m3.next, 0, none⟩) 1 1) m4) ∧ appendE m4 1 8 [I 0] sv (.slice (some ⟨m3.next, 0, none⟩) 1 1) = some (.val v'' m5) ∧
      SprAt m5 lo f F' G' v' v'' (vals ++ [vx]) (out ++ [y]) ∧ Fm (fun z => lo ≤ z) m m5 := by
  have hlen := h.len
  obtain ⟨pv, cv, rfl⟩ := rdu_slice hy
  obtain ⟨m2, v', m3, F', k1, k2, k3, k4, k5, k6⟩ := h.own.app1 (bytes := 24) (zero := .slice none 0 0) (x := .slice pv (labN y).length cv) rfl (by omega) (by omega)
  have hst3 := h.st.fr k4 (fun z hz hq => h.dis z hq hz)
  have sp3 : ∃ a c o, sv = .slice (some a) out.length c ∧ m3.get a.block = some o ∧ o.cells[a.off + i]? = some (I (dist f x : Nat)) := by
    have := (hst3.rd (by omega)).at1 (i := i) (x := I (dist f x : Nat)) (by simp [hx])
    simpa using this
  obtain ⟨a, c, o, q1, q2, q3⟩ := sp3
  obtain ⟨m4, v'', m5, G', j1, j2, j3, j4, j5, j6⟩ := hst3.app1 (bytes := 8) (zero := I 0) (x := I (dist f y : Nat)) rfl (by simp; omega) (by simp; omega)
  have hn3 := k4.next
  have hn5 := j4.next
  have hF3 := k3.lt
  have hF0 := h.own.lt
  have hG0 := h.st.lt
  have sum : Fm (fun z => z ∈ F ∨ z ∈ G) m m5 := (k4.mono fun _ _ h => .inl h).trans (j4.mono fun _ _ h => .inr h)
  refine ⟨m2, v', m3, a, c, o, m4, v'', m5, F', G', k1, k2, ⟨q1, q2, q3⟩, j1, j2, ⟨k3.fr j4 (fun z hz hq => ?_), by rw [List.map_append]; exact j3, by simp; omega, fun j z w hz hw => ?_, fun z hz => ?_, fun z hz => ?_, fun z hz hq => ?_⟩, sum.mono fun z _ hz => ?_⟩
  · rcases k6 z hz with h1 | h1
    · exact h.dis z h1 hq
    · have := hG0 z hq; omega
  · have free : ∀ a : Addr, a.block < m.next → a.block ∉ F → a.block ∉ G → a.block < m5.next ∧ a.block ∉ F' ∧ a.block ∉ G' := fun a h1 h2 h3 => by
      refine ⟨by omega, fun h4 => ?_, fun h4 => ?_⟩
      · rcases k6 _ h4 with h5 | h5
        · exact h2 h5
        · omega
      · rcases j6 _ h4 with h5 | h5
        · exact h3 h5
        · omega
    by_cases hj : j < out.length
    · rw [List.getElem?_append_left hj] at hz
      rw [List.getElem?_append_left (by omega)] at hw
      obtain ⟨e1, e2⟩ := h.elt j z w hz hw
      refine ⟨e1.fr2 sum (Nat.le_refl _) (fun a n c hv hn hq => ?_), fun a n c hv hn => ?_⟩
      · obtain ⟨_, e4, e5⟩ := e2 a n c hv hn
        exact hq.elim e4 e5
      · obtain ⟨e3, e4, e5⟩ := e2 a n c hv hn
        exact free a e3 e4 e5
    · rw [List.getElem?_append_right (by omega)] at hz hw
      have h0 := (List.getElem?_eq_some_iff.1 hz).1
      simp at h0
      rw [show j - out.length = 0 by omega] at hz
      rw [show j - vals.length = 0 by omega] at hw
      simp only [List.getElem?_cons_zero, Option.some.injEq] at hz hw
      subst hz hw
      refine ⟨hy.fr2 sum (Nat.le_refl _) (fun a n c hv hn hq => ?_), fun a n c hv hn => ?_⟩
      · obtain ⟨_, e4, e5⟩ := hya a n c hv hn
        exact hq.elim e4 e5
      · obtain ⟨e3, e4, e5⟩ := hya a n c hv hn
        exact free a e3 e4 e5
  · rcases k6 z hz with h1 | h1
    · exact h.lowF z h1
    · omega
  · rcases j6 z hz with h1 | h1
    · exact h.lowG z h1
    · omega
  · rcases k6 z hz with h1 | h1 <;> rcases j6 z hq with h2 | h2
    · exact h.dis z h1 h2
    · have := hF0 z h1; omega
    · have := hG0 z h2; omega
    · have := hF3 z hz; omega
  · rcases hz with h1 | h1
    · exact h.lowF z h1
    · exact h.lowG z h1
end

def x15L1 : XCode := (.seq (.seq (.ops [⟨(some 24), none, .move (.t 11)⟩,
        ⟨(some 25), none, .bin .leq 30 (.t 24) (.c (.int .u64 8))⟩] (some [0, 1, 8, 9, 10, 11, 25]))
      (.cond (.t 25)
       .skip
       (.exit 2)))
      (.seq (.block 3
       (.seq (.ops [⟨(some 28), none, .move (.t 8)⟩,
         ⟨(some 29), none, .move (.t 10)⟩,
         ⟨(some 30), none, .indexAddr 1 (.t 28) (.t 29)⟩,
         ⟨(some 31), none, .load false 1 (.t 30)⟩,
         ⟨(some 32), none, .move (.t 11)⟩,
         ⟨(some 33), none, .call (.c (.func (.func 22) #[] #[])) [(.t 31), (.t 32)]⟩,
         ⟨(some 12), none, .move (.t 33)⟩] (some [0, 1, 8, 9, 10, 11, 12]))
       (.seq (.ops [⟨(some 34), none, .buildSlice [(.int .u64 0)] 1 0 []⟩,
         ⟨(some 13), none, .move (.t 34)⟩] (some [0, 1, 8, 9, 10, 11, 12, 13]))
       (.seq (.seq (.ops [⟨(some 35), none, .move (.t 12)⟩,
         ⟨(some 36), none, .move (.t 35)⟩,
         ⟨(some 37), (some (36, true)), .move (.t 0)⟩,
         ⟨(some 38), (some (36, true)), .move (.t 1)⟩,
         ⟨(some 39), (some (36, true)), .move (.t 11)⟩,
         ⟨(some 40), (some (36, true)), .call (.c (.func (.func 21) #[] #[])) [(.t 37), (.t 38), (.t 39), (.c (.bool true))]⟩,
         ⟨(some 41), none, .pick (.t 36) (.t 40) (.c (.bool false))⟩] (some [0, 1, 8, 9, 10, 11, 12, 13, 41]))
       (.cond (.t 41)
        (.seq (.ops [⟨(some 14), none, .move (.c (.int .i64 0))⟩] (some [0, 1, 8, 9, 10, 11, 13, 14]))
        (.block 4
         (.loop
          (.seq (.seq (.ops [⟨(some 42), none, .move (.t 14)⟩,
            ⟨(some 43), none, .move (.t 8)⟩,
            ⟨(some 44), none, .move (.t 10)⟩,
            ⟨(some 45), none, .indexAddr 1 (.t 43) (.t 44)⟩,
            ⟨(some 46), none, .load false 1 (.t 45)⟩,
            ⟨(some 47), none, .len (.t 46)⟩,
            ⟨(some 48), none, .bin .lss 3 (.t 42) (.t 47)⟩] (some [0, 1, 8, 9, 10, 11, 13, 14, 48]))
          (.cond (.t 48)
           .skip
           (.exit 4)))
          (.seq (.block 5
           (.seq (.ops [⟨(some 51), none, .move (.t 8)⟩,
             ⟨(some 52), none, .move (.t 10)⟩,
             ⟨(some 53), none, .indexAddr 1 (.t 51) (.t 52)⟩,
             ⟨(some 54), none, .load false 1 (.t 53)⟩,
             ⟨(some 55), none, .move (.t 14)⟩,
             ⟨(some 56), none, .indexAddr 1 (.t 54) (.t 55)⟩,
             ⟨(some 57), none, .load false 1 (.t 56)⟩,
             ⟨(some 58), none, .move (.t 11)⟩,
             ⟨(some 59), none, .bin .neq 30 (.t 57) (.t 58)⟩] (some [0, 1, 8, 9, 10, 11, 13, 14, 59]))
           (.cond (.t 59)
            (.ops [⟨(some 60), none, .move (.t 13)⟩,
              ⟨(some 61), none, .move (.t 8)⟩,
              ⟨(some 62), none, .move (.t 10)⟩,
              ⟨(some 63), none, .indexAddr 1 (.t 61) (.t 62)⟩,
              ⟨(some 64), none, .load false 1 (.t 63)⟩,
              ⟨(some 65), none, .move (.t 14)⟩,
              ⟨(some 66), none, .indexAddr 1 (.t 64) (.t 65)⟩,
              ⟨(some 67), none, .load false 1 (.t 66)⟩,
              ⟨(some 68), none, .buildSlice [(.int .u64 0)] 1 1 [(0, (.t 67))]⟩,
              ⟨(some 69), none, .append 1 8 [(.int .u64 0)] (.t 60) (.t 68)⟩,
              ⟨(some 13), none, .move (.t 69)⟩] (some [0, 1, 8, 9, 10, 11, 13, 14]))
            .skip)))
          (.ops [⟨(some 49), none, .move (.t 14)⟩,
            ⟨(some 50), none, .bin .add 3 (.t 49) (.c (.int .i64 1))⟩,
            ⟨(some 14), none, .move (.t 50)⟩] (some [0, 1, 8, 9, 10, 11, 13, 14])))))))
        (.seq (.ops [⟨(some 70), none, .move (.t 12)⟩,
          ⟨(some 71), none, .un .not (.t 70)⟩,
          ⟨(some 72), none, .move (.t 71)⟩,
          ⟨(some 73), (some (72, true)), .move (.t 0)⟩,
          ⟨(some 74), (some (72, true)), .move (.t 1)⟩,
          ⟨(some 75), (some (72, true)), .move (.t 11)⟩,
          ⟨(some 76), (some (72, true)), .call (.c (.func (.func 21) #[] #[])) [(.t 73), (.t 74), (.t 75), (.c (.bool false))]⟩,
          ⟨(some 77), none, .pick (.t 72) (.t 76) (.c (.bool false))⟩] (some [0, 1, 8, 9, 10, 11, 77]))
        (.cond (.t 77)
         (.ops [⟨(some 78), none, .move (.t 8)⟩,
           ⟨(some 79), none, .move (.t 10)⟩,
           ⟨(some 80), none, .indexAddr 1 (.t 78) (.t 79)⟩,
           ⟨(some 81), none, .load false 1 (.t 80)⟩,
           ⟨(some 82), none, .move (.t 11)⟩,
           ⟨(some 83), none, .call (.c (.func (.func 39) #[] #[])) [(.t 81), (.t 82)]⟩,
           ⟨(some 13), none, .move (.t 83)⟩] (some [0, 1, 8, 9, 10, 11, 13]))
         (.exit 3)))))
       (.seq (.seq (.ops [⟨(some 84), none, .move (.t 13)⟩,
         ⟨(some 85), none, .len (.t 84)⟩,
         ⟨(some 86), none, .bin .gtr 3 (.t 85) (.c (.int .i64 6))⟩,
         ⟨(some 87), none, .move (.t 86)⟩,
         ⟨(some 88), (some (87, false)), .move (.t 8)⟩,
         ⟨(some 89), (some (87, false)), .move (.t 13)⟩,
         ⟨(some 90), (some (87, false)), .call (.c (.func (.func 16) #[] #[])) [(.t 88), (.t 89)]⟩,
         ⟨(some 91), (some (87, false)), .bin .geq 3 (.t 90) (.c (.int .i64 0))⟩,
         ⟨(some 92), none, .pick (.t 87) (.c (.bool true)) (.t 91)⟩] (some [0, 1, 8, 9, 10, 11, 13, 92]))
       (.cond (.t 92)
        (.exit 3)
        .skip))
       (.seq (.ops [⟨(some 93), none, .move (.t 8)⟩,
         ⟨(some 94), none, .move (.t 13)⟩,
         ⟨(some 95), none, .buildSlice [(.slice none 0 0)] 1 1 [(0, (.t 94))]⟩,
         ⟨(some 96), none, .append 1 24 [(.slice none 0 0)] (.t 93) (.t 95)⟩,
         ⟨(some 8), none, .move (.t 96)⟩] (some [0, 1, 8, 9, 10, 11]))
       (.ops [⟨(some 97), none, .move (.t 9)⟩,
         ⟨(some 98), none, .move (.t 9)⟩,
         ⟨(some 99), none, .move (.t 10)⟩,
         ⟨(some 100), none, .indexAddr 1 (.t 98) (.t 99)⟩,
         ⟨(some 101), none, .load false 1 (.t 100)⟩,
         ⟨(some 102), none, .bin .add 3 (.t 101) (.c (.int .i64 1))⟩,
         ⟨(some 103), none, .buildSlice [(.int .i64 0)] 1 1 [(0, (.t 102))]⟩,
         ⟨(some 104), none, .append 1 8 [(.int .i64 0)] (.t 97) (.t 103)⟩,
         ⟨(some 9), none, .move (.t 104)⟩] (some [0, 1, 8, 9, 10, 11]))))))))
      (.ops [⟨(some 26), none, .move (.t 11)⟩,
        ⟨(some 27), none, .bin .add 30 (.t 26) (.c (.int .u64 1))⟩,
        ⟨(some 11), none, .move (.t 27)⟩] (some [0, 1, 8, 9, 10, 11]))))
def plusR (R : Rf) (w : Int) (t : Nat) : Bool := hasR R (w, (t : Int), false)
def minusR (R : Rf) (w : Int) (t : Nat) : Bool := hasR R (w, (t : Int), true)
abbrev SEnv (bp : Nat) (w : Int) (ov sv : Value) (i τ : Nat) : Env := [(0, Pt bp), (1, I w), (8, ov), (9, sv), (10, I i), (11, U τ)]

theorem RefAt.lo {m m' : Mem} {lo b : Nat} {F : List Nat} {p : Option Addr} {R : Rf} (h : RefAt m b F p R) (hb : b < lo) (hF : ∀ x ∈ F, x < lo) (hf : Fm (fun z => lo ≤ z) m m') : RefAt m' b F p R :=
  h.fr hf (by omega) (fun i hi hq => by have := hF i hi; omega)

section
variable {m : Mem} {lo f bp i x τ : Nat} {w : Int} {Fr F G : List Nat} {pq : Option Addr} {R : Rf} {ov sv : Value} {vals : List Value} {out : List Nat} {Q N : Post} {B : Nat → Post}
theorem sbody_spec (hR : RefAt m bp Fr pq R) (hRl : R.l.length ≤ 100000) (hbp : bp < lo) (hFr : ∀ z ∈ Fr, z < lo) (hlo : lo ≤ m.next) (hS : SprAt m lo f F G ov sv vals out) (hBf : Bfs (plusR R w) (minusR R w) f out i τ) (pf : popN f ≤ 6) (hx : out[i]? = some x) (hτ : τ ∈ T8)
    (h : ∀ m' F' G' ov' sv' vals' out', Fm (fun z => lo ≤ z) m m' → SprAt m' lo f F' G' ov' sv' vals' out' → Bfs (plusR R w) (minusR R w) f out' i (τ + 1) → out'[i]? = some x → N (SEnv bp w ov' sv' i (τ + 1)) m') :
    Go' Try.prog tabK [.code x15L1] (SEnv bp w ov sv i τ) m Q N B := by
  unfold x15L1
  have hτ' := t8_iff.1 hτ
  have h8 : (τ : Int) ≤ 8 := by omega
  have wt : IntKind.u64.wrap ((τ : Int) + 1) = ((τ + 1 : Nat) : Int) := by rw [wrap_u64 (by omega) (by omega)]; omega
  have hi : i < out.length := (List.getElem?_eq_some_iff.1 hx).1
  have hlen := hBf.len
  have hlt256 := (hBf.ok x (List.mem_of_getElem? hx)).lt
  have hpx := (hBf.ok x (List.mem_of_getElem? hx)).pop
  have hxl : (out.map labN)[i]? = some (labN x) := by rw [List.getElem?_map, hx]; rfl
  have rd : ∀ {m2}, Nx m m2 → ∃ a c o p' c', ov = .slice (some a) out.length c ∧ m2.get a.block = some o ∧ o.cells[a.off + i]? = some (.slice p' (popN x) c') ∧ RdU m2.next m2 (.slice p' (popN x) c') (labN x) := fun f => by
    have := (hS.nx f).rooms.at hxl
    rw [len_lab, List.length_map] at this
    exact this
  obtain ⟨a, c, o, p', c', rfl, ho, hc, hru⟩ := rd .refl
  obtain ⟨m1, hm1⟩ : ∃ m1, m.push { cells := [], rw := true, spare := none, kin := [] } = m1 := ⟨_, rfl⟩
  have f1 : Nx m m1 := hm1 ▸ .push
  have hn1 := f1.next
  have bz : buildSliceE m [U 0] 1 0 [] = some (.val (.slice (some ⟨m.next, 0, none⟩) 0 0) m1) := by rw [← hm1]; exact buildSlice_zero
  have k1 : Ca 22 [.slice p' (popN x) c', U τ] m (.bool (hasN x τ)) m := by
    have := rhasL_spec (g := (τ : Int)) hru (by rw [len_lab]; omega)
    rwa [hasL_lab hτ] at this
  have lo1 : ∀ {m2}, Nx m m2 → Fm (fun z => lo ≤ z) m m2 := fun f => f.mono fun _ _ h => h.elim
  have idle : ∀ {m2}, Nx m m2 → (stepN (plusR R w) (minusR R w) x τ = true → tog x τ ∈ out) → N (SEnv bp w (.slice (some a) out.length c) sv i (τ + 1)) m2 := fun f hs => h _ _ _ _ _ _ _ (lo1 f) (hS.nx f) (hBf.skip hx hs) hx
  -- what comes behind the next label
  have tail : ∀ (m3 : Mem) (vn : Value) (F2 : List Nat), Nx m m3 → Own3 1 F2 m3 vn (rowsU (labN (tog x τ))) → (∀ z ∈ F2, m.next ≤ z) → (bif hasN x τ then minusR R w τ else plusR R w τ) = true → popN (tog x τ) ≤ 6 →
      ∃ pn cn, vn = .slice pn (popN (tog x τ)) cn ∧ Wc 16 [.slice (some a) out.length c, .slice pn (popN (tog x τ)) cn] m3 fun r m' => m' = m3 ∧ ∃ k : Int, r = I k ∧
        ((0 ≤ k ∧ N (SEnv bp w (.slice (some a) out.length c) sv i (τ + 1)) m3) ∨
         (k = -1 ∧ ∃ m4 v' m5 a2 c2 o2 m6 v'' m7, buildSliceE m3 [.slice none 0 0] 1 1 [(0, vn)] = some (.val (.slice (some ⟨m3.next, 0, none⟩) 1 1) m4) ∧ appendE m4 1 24 [.slice none 0 0] (.slice (some a) out.length c) (.slice (some ⟨m3.next, 0, none⟩) 1 1) = some (.val v' m5) ∧
            (sv = .slice (some a2) out.length c2 ∧ m5.get a2.block = some o2 ∧ o2.cells[a2.off + i]? = some (I (dist f x : Nat))) ∧ IntKind.i64.wrap (((dist f x : Nat) : Int) + 1) = ((dist f x + 1 : Nat) : Int) ∧
            buildSliceE m5 [I 0] 1 1 [(0, I (dist f x + 1 : Nat))] = some (.val (.slice (some ⟨m5.next, 0, none⟩) 1 1) m6) ∧ appendE m6 1 8 [I 0] sv (.slice (some ⟨m5.next, 0, none⟩) 1 1) = some (.val v'' m7) ∧
            N (SEnv bp w v' v'' i (τ + 1)) m7)) := fun m3 vn F2 f3 hO hF2 hmay hp6 => by
    have hS3 := hS.nx f3
    have hrd : RdU m3.next m3 vn (labN (tog x τ)) := hO.rd (by omega)
    obtain ⟨pn, cn, hvn⟩ := rdu_slice hrd
    rw [len_lab] at hvn
    refine ⟨pn, cn, hvn, ?_⟩
    rw [← hvn]
    have hn3 := f3.next
    have hstep : stepN (plusR R w) (minusR R w) x τ = true := by unfold stepN; rw [hmay, decide_eq_true hp6]; rfl
    have hw := at_where hS3.rooms hrd (by simp; omega) (fun us hus => by
      obtain ⟨z, hz, rfl⟩ := List.mem_map.1 hus
      rw [len_lab]
      have := (hBf.ok z hz).pop
      omega)
    have key : labN (tog x τ) ∈ out.map labN → tog x τ ∈ out := fun hm => by
      obtain ⟨z, hz, he⟩ := List.mem_map.1 hm
      rw [← lab_inj (hBf.ok z hz).lt (tog_lt hlt256 hτ) he]
      exact hz
    refine wpCall_mono ?_ hw
    rintro r m' ⟨rfl, k, rfl, hk⟩
    refine ⟨rfl, k, rfl, ?_⟩
    rcases hk with ⟨rfl, hni⟩ | ⟨n, rfl, hni⟩
    · have hni' : tog x τ ∉ out := fun hm => hni (List.mem_map.2 ⟨_, hm, rfl⟩)
      obtain ⟨b1, b2⟩ := hBf.push pf hx hτ hstep hni'
      obtain ⟨m4, v', m5, a2, c2, o2, m6, v'', m7, F', G', s1, s2, s3, s4, s5, s6, s7⟩ := hS3.push (y := tog x τ) hrd (fun a n c hv hn => by
        have hb := hO.block hv hn
        have h1 := hF2 _ hb
        exact ⟨hO.lt _ hb, fun hq => by have := hS.own.lt _ hq; omega, fun hq => by have := hS.st.lt _ hq; omega⟩) (by omega) hlen hx
      rw [b2] at s4
      have hdl : dist f x ≤ 8 := List.countP_le_length
      refine .inr ⟨rfl, m4, v', m5, a2, c2, o2, m6, v'', m7, s1, s2, s3, by rw [wrap_i64 (by omega) (by omega)]; omega, s4, s5, h _ _ _ _ _ _ _ ((lo1 f3).trans s7) s6 b1 ?_⟩
      rw [List.getElem?_append_left hi]; exact hx
    · refine .inl ⟨by omega, idle f3 fun _ => key ?_⟩
      exact List.mem_of_getElem? hni
  cases hh : hasN x τ with
  | true =>
    rw [hh] at k1
    have k2 := rhas_spec (w := w) (g := (τ : Int)) (dm := true) (hR.nx f1) hRl
    rw [show hasR R (w, (τ : Int), true) = minusR R w τ from rfl] at k2
    have hp1 := pop_down hτ hh
    cases hm : minusR R w τ with
    | false =>
      rw [hm] at k2
      simp only [symA, go_opsd, symB, wantedX, X.put, X.look, Arg.ev, keepOf, restrict, evs, evO, initEnv, xres, tup, noTup, cls, quiet, Nat.reduceAdd, Nat.reduceEqDiff, ↓reduceIte, reduceCtorEq, goInt, exists_eq_left', eq_self, Int.reduceLT, Int.reduceLE, Int.reduceEq, Int.reduceNeg, Int.reduceAdd, Int.reduceSub, forall_const, ne_eq, undef, Nat.reducePow, Nat.reduceDiv, Nat.reduceMod, h8, hi, ho, hc, goR_call k1, bz, goR_call k2, wt]
      exact idle f1 (fun hs => by unfold stepN at hs; rw [hh, hm] at hs; simp at hs)
    | true =>
      rw [hm] at k2
      simp only [symA, go_opsd, symB, wantedX, X.put, X.look, Arg.ev, keepOf, restrict, evs, evO, initEnv, xres, tup, noTup, cls, quiet, Nat.reduceAdd, Nat.reduceEqDiff, ↓reduceIte, reduceCtorEq, goInt, exists_eq_left', eq_self, Int.reduceLT, Int.reduceLE, Int.reduceEq, Int.reduceNeg, Int.reduceAdd, Int.reduceSub, forall_const, ne_eq, undef, Nat.reducePow, Nat.reduceDiv, Nat.reduceMod, h8, hi, ho, hc, goR_call k1, bz, goR_call k2]
      refine loop_go (fun j e m' => Nx m m' ∧ ∃ (k : Nat) (F2 : List Nat) (v2 : Value) (acc : List Int), k ≤ popN x ∧ j = popN x - k ∧ Own3 1 F2 m' v2 ((acc.map U).map fun x => [x]) ∧ acc = remL ((labN x).take k) (τ : Int) ∧ (∀ z ∈ F2, m.next ≤ z) ∧
        e = [(0, Pt bp), (1, I w), (8, .slice (some a) out.length c), (9, sv), (10, I i), (11, U τ), (13, v2), (14, I k)]) (popN x) ⟨f1, 0, [], _, [], by omega, rfl, .inl ⟨by simp, .inr ⟨rfl, by simp, m.next, rfl⟩⟩, rfl, by simp, rfl⟩ ?_
      rintro j e m' N' B' hN hB ⟨fm, k, F2, v2, acc, hk, rfl, hO, hacc, hF2, rfl⟩
      have hnm := fm.next
      obtain ⟨a3, c3, o3, p3, c3', hva3, ho3, hc3, hru3⟩ := rd fm
      cases hva3
      have hal : acc.length ≤ k := by
        rw [hacc]
        refine Nat.le_trans (List.length_filter_le _ _) ?_
        rw [List.length_take]; omega
      by_cases hkt : k < popN x
      · have hkt' : (k : Int) < (popN x : Int) := by omega
        obtain ⟨y, hy⟩ : ∃ y, (labN x)[k]? = some y := ⟨_, List.getElem?_eq_getElem (by rw [len_lab]; omega)⟩
        obtain ⟨a4, c4, o4, hva4, ho4, hc4⟩ := rdu_at hru3 hy
        rw [len_lab] at hva4
        cases hva4
        have wk : IntKind.i64.wrap ((k : Int) + 1) = ((k + 1 : Nat) : Int) := by rw [wrap_i64 (by omega) (by omega)]; omega
        have hnext : remL ((labN x).take (k + 1)) (τ : Int) = acc ++ (if y = (τ : Int) then [] else [y]) := by
          rw [List.take_add_one, hy, hacc]
          unfold remL
          rw [List.filter_append]
          congr 1
          by_cases hq : y = (τ : Int) <;> simp [hq]
        by_cases hq : y = (τ : Int)
        · rw [if_pos hq, List.append_nil] at hnext
          simp only [symA, go_opsd, symB, wantedX, X.put, X.look, Arg.ev, keepOf, restrict, evs, evO, initEnv, xres, tup, noTup, cls, quiet, Nat.reduceAdd, Nat.reduceEqDiff, ↓reduceIte, reduceCtorEq, goInt, exists_eq_left', eq_self, Int.reduceLT, Int.reduceLE, Int.reduceEq, Int.reduceNeg, Int.reduceAdd, Int.reduceSub, forall_const, ne_eq, undef, Nat.reducePow, Nat.reduceDiv, Nat.reduceMod, hi, hkt, hkt', ho3, hc3, ho4, hc4, hq, wk]
          exact hN _ _ (popN x - (k + 1)) (by omega) ⟨fm, k + 1, F2, v2, acc, by omega, rfl, hO, hnext.symm, hF2, rfl⟩
        · rw [if_neg hq] at hnext
          obtain ⟨m4, v', m5, F', q1, q2, q3, q4, q5, q6⟩ := hO.app1 (bytes := 8) (zero := U 0) (x := U y) rfl (by simp; omega) (by simp; omega)
          simp only [symA, go_opsd, symB, wantedX, X.put, X.look, Arg.ev, keepOf, restrict, evs, evO, initEnv, xres, tup, noTup, cls, quiet, Nat.reduceAdd, Nat.reduceEqDiff, ↓reduceIte, reduceCtorEq, goInt, exists_eq_left', eq_self, Int.reduceLT, Int.reduceLE, Int.reduceEq, Int.reduceNeg, Int.reduceAdd, Int.reduceSub, forall_const, ne_eq, undef, Nat.reducePow, Nat.reduceDiv, Nat.reduceMod, hi, hkt, hkt', ho3, hc3, ho4, hc4, hq, q1, q2, wk]
          refine hN _ _ (popN x - (k + 1)) (by omega) ⟨fm.comp q4 (fun z hz hq => by have := hF2 z hq; omega), k + 1, F', v', acc ++ [y], by omega, rfl, by rw [List.map_append]; exact q3, hnext.symm, fun z hz => ?_, rfl⟩
          rcases q6 z hz with h1 | h1
          · exact hF2 z h1
          · omega
      · have hkt' : ¬ (k : Int) < (popN x : Int) := by omega
        rw [List.take_of_length_le (by rw [len_lab]; omega), rem_lab hlt256 hτ hh] at hacc
        subst hacc
        rw [← rowsU_vals] at hO
        obtain ⟨pn, cn, rfl, hat⟩ := tail m' v2 F2 fm hO hF2 (by rw [hh]; exact hm) (by omega)
        have h6 : ¬ (6 : Int) < (popN (tog x τ) : Int) := by omega
        simp only [symA, go_opsd, symB, wantedX, X.put, X.look, Arg.ev, keepOf, restrict, evs, evO, initEnv, xres, tup, noTup, cls, quiet, Nat.reduceAdd, Nat.reduceEqDiff, ↓reduceIte, reduceCtorEq, goInt, exists_eq_left', eq_self, Int.reduceLT, Int.reduceLE, Int.reduceEq, Int.reduceNeg, Int.reduceAdd, Int.reduceSub, forall_const, ne_eq, undef, Nat.reducePow, Nat.reduceDiv, Nat.reduceMod, hi, ho3, hc3, hkt']
        refine hB _ _ _ ?_
        simp only [symA, go_opsd, symB, wantedX, X.put, X.look, Arg.ev, keepOf, restrict, evs, evO, initEnv, xres, tup, noTup, cls, quiet, Nat.reduceAdd, Nat.reduceEqDiff, ↓reduceIte, reduceCtorEq, goInt, exists_eq_left', eq_self, Int.reduceLT, Int.reduceLE, Int.reduceEq, Int.reduceNeg, Int.reduceAdd, Int.reduceSub, forall_const, ne_eq, undef, Nat.reducePow, Nat.reduceDiv, Nat.reduceMod, h6]
        refine goR_wp hat ?_
        rintro _ _ ⟨rfl, kk, rfl, hk | ⟨rfl, m4, v', m5, a2, c2, o2, m6, v'', m7, s1, s2, ⟨rfl, s31, s32⟩, s33, s4, s5, s6⟩⟩
        · simp only [symA, go_opsd, symB, wantedX, X.put, X.look, Arg.ev, keepOf, restrict, evs, evO, initEnv, xres, tup, noTup, cls, quiet, Nat.reduceAdd, Nat.reduceEqDiff, ↓reduceIte, reduceCtorEq, goInt, exists_eq_left', eq_self, Int.reduceLT, Int.reduceLE, Int.reduceEq, Int.reduceNeg, Int.reduceAdd, Int.reduceSub, forall_const, ne_eq, undef, Nat.reducePow, Nat.reduceDiv, Nat.reduceMod, hk.1, wt]
          exact hk.2
        · simp only [symA, go_opsd, symB, wantedX, X.put, X.look, Arg.ev, keepOf, restrict, evs, evO, initEnv, xres, tup, noTup, cls, quiet, Nat.reduceAdd, Nat.reduceEqDiff, ↓reduceIte, reduceCtorEq, goInt, exists_eq_left', eq_self, Int.reduceLT, Int.reduceLE, Int.reduceEq, Int.reduceNeg, Int.reduceAdd, Int.reduceSub, forall_const, ne_eq, undef, Nat.reducePow, Nat.reduceDiv, Nat.reduceMod, s1, s2, hi, s31, s32, s33, s4, s5, wt]
          exact s6
  | false =>
    rw [hh] at k1
    have k2 := rhas_spec (w := w) (g := (τ : Int)) (dm := false) (hR.nx f1) hRl
    rw [show hasR R (w, (τ : Int), false) = plusR R w τ from rfl] at k2
    have hp1 := pop_up hτ hh
    cases hm : plusR R w τ with
    | false =>
      rw [hm] at k2
      simp only [symA, go_opsd, symB, wantedX, X.put, X.look, Arg.ev, keepOf, restrict, evs, evO, initEnv, xres, tup, noTup, cls, quiet, Nat.reduceAdd, Nat.reduceEqDiff, ↓reduceIte, reduceCtorEq, goInt, exists_eq_left', eq_self, Int.reduceLT, Int.reduceLE, Int.reduceEq, Int.reduceNeg, Int.reduceAdd, Int.reduceSub, forall_const, ne_eq, undef, Nat.reducePow, Nat.reduceDiv, Nat.reduceMod, h8, hi, ho, hc, goR_call k1, bz, goR_call k2, wt]
      exact idle f1 (fun hs => by unfold stepN at hs; rw [hh, hm] at hs; simp at hs)
    | true =>
      rw [hm] at k2
      obtain ⟨a3, c3, o3, p3, c3', hva3, ho3, hc3, hru3⟩ := rd f1
      cases hva3
      obtain ⟨vn, m3, F2, p1, p2, p3', p4⟩ := put_spec (t := (τ : Int)) hru3 (Nat.le_refl _) (by rw [len_lab]; omega)
      rw [put_lab hlt256 hτ hh] at p2
      have f3 := f1.trans p3'
      by_cases h6 : popN (tog x τ) ≤ 6
      · obtain ⟨pn, cn, rfl, hat⟩ := tail m3 vn F2 f3 p2 (fun z hz => by have := p4 z hz; omega) (by rw [hh]; exact hm) h6
        have h6' : ¬ (6 : Int) < (popN (tog x τ) : Int) := by omega
        simp only [symA, go_opsd, symB, wantedX, X.put, X.look, Arg.ev, keepOf, restrict, evs, evO, initEnv, xres, tup, noTup, cls, quiet, Nat.reduceAdd, Nat.reduceEqDiff, ↓reduceIte, reduceCtorEq, goInt, exists_eq_left', eq_self, Int.reduceLT, Int.reduceLE, Int.reduceEq, Int.reduceNeg, Int.reduceAdd, Int.reduceSub, forall_const, ne_eq, undef, Nat.reducePow, Nat.reduceDiv, Nat.reduceMod, h8, hi, ho, hc, goR_call k1, bz, goR_call k2, ho3, hc3, goR_call p1, h6']
        refine goR_wp hat ?_
        rintro _ _ ⟨rfl, kk, rfl, hk | ⟨rfl, m4, v', m5, a2, c2, o2, m6, v'', m7, s1, s2, ⟨rfl, s31, s32⟩, s33, s4, s5, s6⟩⟩
        · simp only [symA, go_opsd, symB, wantedX, X.put, X.look, Arg.ev, keepOf, restrict, evs, evO, initEnv, xres, tup, noTup, cls, quiet, Nat.reduceAdd, Nat.reduceEqDiff, ↓reduceIte, reduceCtorEq, goInt, exists_eq_left', eq_self, Int.reduceLT, Int.reduceLE, Int.reduceEq, Int.reduceNeg, Int.reduceAdd, Int.reduceSub, forall_const, ne_eq, undef, Nat.reducePow, Nat.reduceDiv, Nat.reduceMod, hk.1, wt]
          exact hk.2
        · simp only [symA, go_opsd, symB, wantedX, X.put, X.look, Arg.ev, keepOf, restrict, evs, evO, initEnv, xres, tup, noTup, cls, quiet, Nat.reduceAdd, Nat.reduceEqDiff, ↓reduceIte, reduceCtorEq, goInt, exists_eq_left', eq_self, Int.reduceLT, Int.reduceLE, Int.reduceEq, Int.reduceNeg, Int.reduceAdd, Int.reduceSub, forall_const, ne_eq, undef, Nat.reducePow, Nat.reduceDiv, Nat.reduceMod, s1, s2, hi, s31, s32, s33, s4, s5, wt]
          exact s6
      · have h6' : (6 : Int) < (popN (tog x τ) : Int) := by omega
        obtain ⟨pn, cn, rfl⟩ := rdu_slice (p2.rd (by omega) : RdU m3.next m3 vn (labN (tog x τ)))
        rw [len_lab] at p1
        simp only [symA, go_opsd, symB, wantedX, X.put, X.look, Arg.ev, keepOf, restrict, evs, evO, initEnv, xres, tup, noTup, cls, quiet, Nat.reduceAdd, Nat.reduceEqDiff, ↓reduceIte, reduceCtorEq, goInt, exists_eq_left', eq_self, Int.reduceLT, Int.reduceLE, Int.reduceEq, Int.reduceNeg, Int.reduceAdd, Int.reduceSub, forall_const, ne_eq, undef, Nat.reducePow, Nat.reduceDiv, Nat.reduceMod, h8, hi, ho, hc, goR_call k1, bz, goR_call k2, ho3, hc3, goR_call p1, h6', wt]
        exact idle f3 (fun hs => by unfold stepN at hs; rw [decide_eq_false h6] at hs; simp at hs)
end

section
variable {b bp f : Nat} {m : Mem} {w : Int} {Fr : List Nat} {pq : Option Addr} {R : Rf} {v : Value}
theorem spread_spec (hR : RefAt m bp Fr pq R) (hRl : R.l.length ≤ 100000) (hv : RdU b m v (labN f)) (hb : b ≤ m.next) (hf : f < 256) (pf : popN f ≤ 6) :
    Wc 15 [Pt bp, I w, v] m fun r m' => Nx m m' ∧ ∃ F G ov sv vals out, r = .tuple #[ov, sv] ∧ SprAt m' m.next f F G ov sv vals out ∧ Bfs (plusR R w) (minusR R w) f out out.length 1 := by
  refine call_go (F := _) rfl rfl fun Q hQ => ?_
  obtain ⟨p, c, rfl⟩ := rdu_slice hv
  obtain ⟨m1, hm1⟩ : ∃ m1, m.push { cells := [.slice p (labN f).length c], rw := true, spare := none, kin := [] } = m1 := ⟨_, rfl⟩
  have f1 : Nx m m1 := hm1 ▸ .push
  have hn1 : m1.next = m.next + 1 := by rw [← hm1]; simp
  have b1 : buildSliceE m [.slice none 0 0] 1 1 [(0, .slice p (labN f).length c)] = some (.val (.slice (some ⟨m.next, 0, none⟩) 1 1) m1) := by rw [← hm1]; exact buildSlice_one rfl
  obtain ⟨m2, hm2⟩ : ∃ m2, m1.push { cells := [I 0], rw := true, spare := none, kin := [] } = m2 := ⟨_, rfl⟩
  have f2 : Nx m1 m2 := hm2 ▸ .push
  have hn2 : m2.next = m1.next + 1 := by rw [← hm2]; simp
  have b2 : buildSliceE m1 [I 0] 1 1 [(0, I 0)] = some (.val (.slice (some ⟨m1.next, 0, none⟩) 1 1) m2) := by rw [← hm2]; exact buildSlice_one rfl
  have hok : ComesN (plusR R w) (minusR R w) f f := ⟨hf, pf, fun t _ h1 h2 => (by rw [h1] at h2; cases h2), fun t _ h1 h2 => (by rw [h1] at h2; cases h2)⟩
  have hO1 : Own3 1 [m.next] m1 (.slice (some ⟨m.next, 0, none⟩) 1 1) ([.slice p (labN f).length c].map fun x => [x]) := by rw [← hm1]; exact Own3.one
  have hO2 : Own3 1 [m1.next] m2 (.slice (some ⟨m1.next, 0, none⟩) 1 1) (([f].map fun x => I (dist f x : Nat)).map fun x => [x]) := by
    rw [← hm2]
    have : ([f].map fun x => I (dist f x : Nat)) = [I 0] := by simp [dist_self]
    rw [this]
    exact Own3.one
  have hS : SprAt m2 m.next f [m.next] [m1.next] (.slice (some ⟨m.next, 0, none⟩) 1 1) (.slice (some ⟨m1.next, 0, none⟩) 1 1) [.slice p (labN f).length c] [f] := by
    refine ⟨hO1.fr f2 (fun _ _ h => h), hO2, rfl, fun j x v hj hv' => ?_, by simp, by simp; omega, by simp; omega⟩
    have h0 := (List.getElem?_eq_some_iff.1 hj).1
    simp at h0
    subst h0
    simp only [List.getElem?_cons_zero, Option.some.injEq] at hj hv'
    subst hj hv'
    refine ⟨hv.fr2 (f1.trans f2) hb (fun _ _ _ _ _ h => h), fun a n c' he hn => ?_⟩
    have := hv.block he hn
    simp; omega
  have hbp := hR.lb
  have hFr : ∀ z ∈ Fr, z < m.next := hR.own.lt
  simp only [symA, go_opsd, symB, wantedX, X.put, X.look, Arg.ev, keepOf, restrict, evs, evO, initEnv, xres, tup, noTup, cls, quiet, Nat.reduceAdd, Nat.reduceEqDiff, ↓reduceIte, reduceCtorEq, goInt, exists_eq_left', eq_self, Int.reduceLT, Int.reduceLE, Int.reduceEq, Int.reduceNeg, Int.reduceAdd, Int.reduceSub, forall_const, ne_eq, undef, Nat.reducePow, Nat.reduceDiv, Nat.reduceMod, b1, b2]
  refine loop_go (fun j e m' => Fm (fun z => m.next ≤ z) m2 m' ∧ ∃ (i : Nat) (F G : List Nat) (ov sv : Value) (vals : List Value) (out : List Nat), i ≤ out.length ∧ j = 256 - i ∧ SprAt m' m.next f F G ov sv vals out ∧ Bfs (plusR R w) (minusR R w) f out i 1 ∧
    e = [(0, Pt bp), (1, I w), (8, ov), (9, sv), (10, I i)]) 256 ⟨.refl, 0, _, _, _, _, _, _, by simp, rfl, hS, .start hok, rfl⟩ ?_
  rintro j e m3 N3 B3 hN3 hB3 ⟨f3, i, F, G, ov, sv, vals, out, hi, rfl, hS3, hB3f, rfl⟩
  obtain ⟨po, co, rfl⟩ := hS3.rooms.slice
  rw [List.length_map] at hS3 ⊢
  have hlen := hB3f.len
  have hn3 := f3.next
  by_cases hlt : i < out.length
  · have hlt' : (i : Int) < (out.length : Int) := by omega
    have wi : IntKind.i64.wrap ((i : Int) + 1) = ((i + 1 : Nat) : Int) := by rw [wrap_i64 (by omega) (by omega)]; omega
    obtain ⟨x, hx⟩ : ∃ x, out[i]? = some x := ⟨_, List.getElem?_eq_getElem hlt⟩
    simp only [symA, go_opsd, symB, wantedX, X.put, X.look, Arg.ev, keepOf, restrict, evs, evO, initEnv, xres, tup, noTup, cls, quiet, Nat.reduceAdd, Nat.reduceEqDiff, ↓reduceIte, reduceCtorEq, goInt, exists_eq_left', eq_self, Int.reduceLT, Int.reduceLE, Int.reduceEq, Int.reduceNeg, Int.reduceAdd, Int.reduceSub, forall_const, ne_eq, undef, Nat.reducePow, Nat.reduceDiv, Nat.reduceMod, hlt']
    refine loop_go (fun j e m' => Fm (fun z => m.next ≤ z) m2 m' ∧ ∃ (τ : Nat) (F G : List Nat) (ov sv : Value) (vals : List Value) (out : List Nat), 1 ≤ τ ∧ τ ≤ 9 ∧ j = 9 - τ ∧ SprAt m' m.next f F G ov sv vals out ∧ Bfs (plusR R w) (minusR R w) f out i τ ∧ out[i]? = some x ∧
      e = SEnv bp w ov sv i τ) 8 ⟨f3, 1, _, _, _, _, _, _, by omega, by omega, rfl, hS3, hB3f, hx, rfl⟩ ?_
    rintro j e m4 N4 B4 hN4 hB4 ⟨f4, τ, F4, G4, ov4, sv4, vals4, out4, hτ1, hτ9, rfl, hS4, hB4f, hx4, rfl⟩
    have hn4 := f4.next
    by_cases hτ : τ ≤ 8
    · exact sbody_spec ((hR.nx (f1.trans f2)).lo hbp hFr f4) hRl hbp hFr (by omega) hS4 hB4f pf hx4 (t8_iff.2 ⟨hτ1, hτ⟩) fun m5 F5 G5 ov5 sv5 vals5 out5 g1 g2 g3 g4 =>
        hN4 _ _ (9 - (τ + 1)) (by omega) ⟨f4.trans g1, τ + 1, F5, G5, ov5, sv5, vals5, out5, by omega, by omega, rfl, g2, g3, g4, rfl⟩
    · have h9 : τ = 9 := by omega
      subst h9
      have h8 : ¬ ((9 : Nat) : Int) ≤ 8 := by omega
      simp only [symA, go_opsd, symB, wantedX, X.put, X.look, Arg.ev, keepOf, restrict, evs, evO, initEnv, xres, tup, noTup, cls, quiet, Nat.reduceAdd, Nat.reduceEqDiff, ↓reduceIte, reduceCtorEq, goInt, exists_eq_left', eq_self, Int.reduceLT, Int.reduceLE, Int.reduceEq, Int.reduceNeg, Int.reduceAdd, Int.reduceSub, forall_const, ne_eq, undef, Nat.reducePow, Nat.reduceDiv, Nat.reduceMod, h8]
      refine hB4 _ _ _ ?_
      simp only [symA, go_opsd, symB, wantedX, X.put, X.look, Arg.ev, keepOf, restrict, evs, evO, initEnv, xres, tup, noTup, cls, quiet, Nat.reduceAdd, Nat.reduceEqDiff, ↓reduceIte, reduceCtorEq, goInt, exists_eq_left', eq_self, Int.reduceLT, Int.reduceLE, Int.reduceEq, Int.reduceNeg, Int.reduceAdd, Int.reduceSub, forall_const, ne_eq, undef, Nat.reducePow, Nat.reduceDiv, Nat.reduceMod, wi]
      have hlt4 : i < out4.length := (List.getElem?_eq_some_iff.1 hx4).1
      have hlen4 := hB4f.len
      exact hN3 _ _ (256 - (i + 1)) (by omega) ⟨f4, i + 1, F4, G4, ov4, sv4, vals4, out4, by omega, rfl, hS4, hB4f.next hlt4, rfl⟩
  · have hlt' : ¬ (i : Int) < (out.length : Int) := by omega
    have hie : i = out.length := by omega
    subst hie
    simp only [symA, go_opsd, symB, wantedX, X.put, X.look, Arg.ev, keepOf, restrict, evs, evO, initEnv, xres, tup, noTup, cls, quiet, Nat.reduceAdd, Nat.reduceEqDiff, ↓reduceIte, reduceCtorEq, goInt, exists_eq_left', eq_self, Int.reduceLT, Int.reduceLE, Int.reduceEq, Int.reduceNeg, Int.reduceAdd, Int.reduceSub, forall_const, ne_eq, undef, Nat.reducePow, Nat.reduceDiv, Nat.reduceMod, hlt']
    refine hB3 _ _ _ ?_
    simp only [symA, go_opsd, symB, wantedX, X.put, X.look, Arg.ev, keepOf, restrict, evs, evO, initEnv, xres, tup, noTup, cls, quiet, Nat.reduceAdd, Nat.reduceEqDiff, ↓reduceIte, reduceCtorEq, goInt, exists_eq_left', eq_self, Int.reduceLT, Int.reduceLE, Int.reduceEq, Int.reduceNeg, Int.reduceAdd, Int.reduceSub, forall_const, ne_eq, undef, Nat.reducePow, Nat.reduceDiv, Nat.reduceMod]
    exact hQ _ _ _ rfl ⟨(f1.trans f2).comp f3 (fun z hz h => by omega), F, G, _, _, vals, out, rfl, hS3, hB3f⟩
end
end Go.Proofs.Ytfjeccaffenngaa
