/-
  Own work. The loops of FlowAll: a search through rooms.
-/
import Derived.Test.YtfjeccaffenngaaH8
namespace Go.Proofs.Ytfjeccaffenngaa
open Go X
set_option maxRecDepth 100000
set_option linter.unusedVariables false
set_option linter.unusedSimpArgs false

/-- What stays while the law looks. -/
structure Cx (m : Mem) (b t r bq : Nat) (Fq : List Nat) (pq : Option Addr) (vr ov lv : Value) (T : Tb) (R : Rf) (rooms : List (List Int)) (W : Nat → Nat → Bool) (lk : List (Nat × Nat)) : Prop where
  next : b ≤ m.next
  ref : RefAt m bq Fq pq R
  refb : bq < b ∧ ∀ z ∈ Fq, z < b
  tab : TabAt m t r T
  tabb : t < b ∧ r < b
  rms : RdRooms b m vr rooms
  mat : ∀ i, i < rooms.length → ∃ oid o cap id, ov = .slice (some ⟨oid, 0, some 0⟩) rooms.length cap ∧ m.get oid = some o ∧ o.cells[i]? = some (RowV rooms.length id) ∧ m.get id = some (rowB rooms.length (W i)) ∧ oid < b ∧ id < b
  lks : RdS b m 2 lv (lk.map rowP)
/-- What is known of the data. -/
structure Dx (T : Tb) (R : Rf) (rooms : List (List Int)) : Prop where
  rel : RelTR T R
  deeds : R.l.length ≤ 100000
  few : ∀ us ∈ rooms, ∃ f, f < 256 ∧ popN f ≤ 6 ∧ us = labN f
  n : rooms.length ≤ 5
  wf : T.Wf
section
variable {m m' : Mem} {b t r bq : Nat} {Fq : List Nat} {pq : Option Addr} {vr ov lv : Value} {T : Tb} {R : Rf} {rooms : List (List Int)} {W : Nat → Nat → Bool} {lk : List (Nat × Nat)}
theorem Cx.fr (h : Cx m b t r bq Fq pq vr ov lv T R rooms W lk) (hf : Fm (fun z => b ≤ z) m m') : Cx m' b t r bq Fq pq vr ov lv T R rooms W lk := by
  have hnx := h.next
  refine ⟨Nat.le_trans h.next hf.next, h.ref.fr hf (by have := h.refb.1; omega) (fun i hi hq => by have := h.refb.2 i hi; omega), h.refb, h.tab.fr hf (by have := h.tabb.1; omega) (by have := h.tabb.2; omega), h.tabb, h.rms.fr hf h.next (fun _ h => h), fun i hi => ?_, h.lks.fr hf h.next (fun _ h => h)⟩
  obtain ⟨oid, o, cap, id, h1, h2, h3, h4, h5, h6⟩ := h.mat i hi
  exact ⟨oid, o, cap, id, h1, hf.get (by omega) (by omega) h2, h3, hf.get (by omega) (by omega) h4, h5, h6⟩
theorem Cx.nx (h : Cx m b t r bq Fq pq vr ov lv T R rooms W lk) (hf : Nx m m') : Cx m' b t r bq Fq pq vr ov lv T R rooms W lk := h.fr (hf.mono fun _ _ h => h.elim)

/-- The document's May, told. -/
theorem rmay_val {bb : Nat} {v vb : Value} {w : Nat} {us ws : List Int} (hR : RefAt m bq Fq pq R) (hD : Dx T R rooms) (hus : us ∈ rooms) (hws : ws ∈ rooms) (hv : RdU bb m v us) (hvb : RdU bb m vb ws) (hb : bb ≤ m.next) (hw : w < T.l.length) :
    ∃ m', Ca 17 [Pt bq, I (w : Int), v, vb] m (.bool (mayT T w us ws)) m' ∧ Nx m m' := by
  obtain ⟨f, hf, pf, rfl⟩ := hD.few us hus
  obtain ⟨y, hy, py, rfl⟩ := hD.few ws hws
  have ho : oneB T (w : Int) = true := by unfold oneB; simp; omega
  obtain ⟨v', m', k, f', tt, rfl, htt⟩ := rmay_spec (w := (w : Int)) hR hD.deeds hv hvb hb hf pf hy
  refine ⟨m', ?_, f'⟩
  have hcle : (((labN f).all fun g => hasR R ((w : Int), g, false)) && oneR R (w : Int)) = clearT T w (labN f) := by
    unfold clearT
    rw [ho, Bool.true_and, hD.rel.one, ho, Bool.and_true]
    congr 1
    funext g
    exact (hD.rel.has w g false ho).symm
  rw [hcle, rel_plus hD.rel ho, rel_minus hD.rel ho, ← comes_lab ho hf hy pf] at htt
  have : tt = mayT T w (labN f) (labN y) := by
    rw [Bool.eq_iff_iff, htt]
    unfold mayT
    rw [Bool.and_eq_true]
  rw [← this]
  exact k

/-- What is seen so far. -/
structure StAt (m : Mem) (b n sid : Nat) (S : Nat → Bool) (todo : List Nat) (td : Value) (G : List Nat) : Prop where
  seen : m.get sid = some (rowB n S)
  own : Own3 1 G m td ((todo.map fun x : Nat => I (x : Int)).map fun x => [x])
  lowG : ∀ z ∈ G, b ≤ z
  sidb : b ≤ sid ∧ sid < m.next ∧ sid ∉ G
theorem StAt.nx {n sid : Nat} {S : Nat → Bool} {todo : List Nat} {td : Value} {G : List Nat} (h : StAt m b n sid S todo td G) (hf : Nx m m') : StAt m' b n sid S todo td G :=
  ⟨hf.get h.sidb.2.1 (fun h => h) h.seen, h.own.fr hf (fun _ _ h => h), h.lowG, h.sidb.1, Nat.lt_of_lt_of_le h.sidb.2.1 hf.next, h.sidb.2.2⟩
theorem StAt.at {n sid : Nat} {S : Nat → Bool} {todo : List Nat} {td : Value} {G : List Nat} (h : StAt m b n sid S todo td G) {q x : Nat} (hq : todo[q]? = some x) : ∃ a c o, td = .slice (some a) todo.length c ∧ m.get a.block = some o ∧ o.cells[a.off + q]? = some (I (x : Int)) := by
  have := (h.own.rd (by omega)).at1 (i := q) (x := I (x : Int)) (by simp [hq])
  simpa using this
theorem StAt.slice {n sid : Nat} {S : Nat → Bool} {todo : List Nat} {td : Value} {G : List Nat} (h : StAt m b n sid S todo td G) : ∃ p c, td = .slice p todo.length c := by
  have := (h.own.rd (by omega)).slice
  simpa using this
theorem StAt.push {n sid j : Nat} {S : Nat → Bool} {todo : List Nat} {td : Value} {G : List Nat} (h : StAt m b n sid S todo td G) (hb : b ≤ m.next) (hj : j < n) (hl : todo.length ≤ 100) :
    ∃ m1 m2 v' m3 G', storeE m 1 (.pointer (some ⟨sid, j, none⟩)) (.bool true) = some (.skip m1) ∧ buildSliceE m1 [I 0] 1 1 [(0, I (j : Int))] = some (.val (.slice (some ⟨m1.next, 0, none⟩) 1 1) m2) ∧
      appendE m2 1 8 [I 0] td (.slice (some ⟨m1.next, 0, none⟩) 1 1) = some (.val v' m3) ∧ StAt m3 b n sid (fun c => if c = j then true else S c) (todo ++ [j]) v' G' ∧ Fm (fun z => b ≤ z) m m3 := by
  obtain ⟨m1, s1, g1, f1, n1⟩ := rowB_store (x := true) h.seen hj
  obtain ⟨m2, v', m3, G', k1, k2, k3, k4, k5, k6⟩ := (h.own.fr f1 (fun z hz (hq : z = sid) => h.sidb.2.2 (hq ▸ hz))).app1 (bytes := 8) (zero := I 0) (x := I (j : Int)) rfl (by simp; omega) (by simp; omega)
  have hn3 := k4.next
  have h1 := h.sidb
  refine ⟨m1, m2, v', m3, G', s1, k1, k2, ⟨k4.get (by omega) h1.2.2 g1, by rw [List.map_append]; exact k3, fun z hz => ?_, h1.1, by omega, fun hz => ?_⟩, (f1.mono fun z _ hz => by omega).trans (k4.mono fun z _ hz => h.lowG z hz)⟩
  · rcases k6 z hz with h' | h'
    · exact h.lowG z h'
    · omega
  · rcases k6 _ hz with h' | h'
    · exact h1.2.2 h'
    · omega
end

def x7L4 : XCode := (.seq (.seq (.ops [⟨(some 161), none, .move (.t 24)⟩,
              ⟨(some 162), none, .move (.t 0)⟩,
              ⟨(some 163), none, .bin .lss 3 (.t 161) (.t 162)⟩,
              ⟨(some 164), none, .move (.t 163)⟩,
              ⟨(some 165), (some (164, true)), .move (.t 20)⟩,
              ⟨(some 166), (some (164, true)), .move (.t 23)⟩,
              ⟨(some 167), (some (164, true)), .indexAddr 1 (.t 165) (.t 166)⟩,
              ⟨(some 168), (some (164, true)), .load false 1 (.t 167)⟩,
              ⟨(some 169), (some (164, true)), .un .not (.t 168)⟩,
              ⟨(some 170), none, .pick (.t 164) (.t 169) (.c (.bool false))⟩] (some [0, 2, 3, 9, 10, 14, 16, 18, 19, 20, 21, 22, 23, 24, 170]))
            (.cond (.t 170)
             .skip
             (.exit 8)))
            (.seq (.block 9
             (.seq (.opsd [(0, 0, ⟨(some 173), none, .move (.t 10)⟩),
               (1, 0, ⟨(some 174), none, .move (.t 24)⟩),
               (2, 0, ⟨(some 175), none, .move (.t 2)⟩),
               (3, 0, ⟨(some 176), none, .move (.t 21)⟩),
               (4, 0, ⟨(some 177), none, .move (.t 22)⟩),
               (5, 24, ⟨(some 178), none, .indexAddr 1 (.t 176) (.t 177)⟩),
               (6, 56, ⟨(some 179), none, .load false 1 (.t 178)⟩),
               (7, 124, ⟨(some 180), none, .indexAddr 1 (.t 175) (.t 179)⟩),
               (8, 252, ⟨(some 181), none, .load false 1 (.t 180)⟩),
               (9, 0, ⟨(some 182), none, .move (.t 2)⟩),
               (10, 0, ⟨(some 183), none, .move (.t 23)⟩),
               (11, 1536, ⟨(some 184), none, .indexAddr 1 (.t 182) (.t 183)⟩),
               (12, 3584, ⟨(some 185), none, .load false 1 (.t 184)⟩),
               (13, 8191, ⟨(some 186), none, .call (.c (.func (.func 17) #[] #[])) [(.t 173), (.t 174), (.t 181), (.t 185)]⟩)] (some [0, 2, 3, 9, 10, 14, 16, 18, 19, 20, 21, 22, 23, 24, 186]))
             (.cond (.t 186)
              (.seq (.ops [⟨(some 187), none, .move (.t 20)⟩,
                ⟨(some 188), none, .move (.t 23)⟩,
                ⟨(some 189), none, .indexAddr 1 (.t 187) (.t 188)⟩,
                ⟨none, none, .store 1 (.t 189) (.c (.bool true))⟩] (some [0, 2, 3, 9, 10, 14, 16, 18, 19, 20, 21, 22, 23, 24]))
              (.ops [⟨(some 190), none, .move (.t 21)⟩,
                ⟨(some 191), none, .move (.t 23)⟩,
                ⟨(some 192), none, .buildSlice [(.int .i64 0)] 1 1 [(0, (.t 191))]⟩,
                ⟨(some 193), none, .append 1 8 [(.int .i64 0)] (.t 190) (.t 192)⟩,
                ⟨(some 21), none, .move (.t 193)⟩] (some [0, 2, 3, 9, 10, 14, 16, 18, 19, 20, 21, 22, 23, 24])))
              .skip)))
            (.ops [⟨(some 171), none, .move (.t 24)⟩,
              ⟨(some 172), none, .bin .add 3 (.t 171) (.c (.int .i64 1))⟩,
              ⟨(some 24), none, .move (.t 172)⟩] (some [0, 2, 3, 9, 10, 14, 16, 18, 19, 20, 21, 22, 23, 24]))))
def x7L3 : XCode := (.seq (.seq (.ops [⟨(some 155), none, .move (.t 23)⟩,
           ⟨(some 156), none, .move (.t 2)⟩,
           ⟨(some 157), none, .len (.t 156)⟩,
           ⟨(some 158), none, .bin .lss 3 (.t 155) (.t 157)⟩] (some [0, 2, 3, 9, 10, 14, 16, 18, 19, 20, 21, 22, 23, 158]))
         (.cond (.t 158)
          .skip
          (.exit 6)))
         (.seq (.block 7
          (.seq (.ops [⟨(some 24), none, .move (.c (.int .i64 0))⟩] (some [0, 2, 3, 9, 10, 14, 16, 18, 19, 20, 21, 22, 23, 24]))
          (.block 8
           (.loop
            (.seq (.seq (.ops [⟨(some 161), none, .move (.t 24)⟩,
              ⟨(some 162), none, .move (.t 0)⟩,
              ⟨(some 163), none, .bin .lss 3 (.t 161) (.t 162)⟩,
              ⟨(some 164), none, .move (.t 163)⟩,
              ⟨(some 165), (some (164, true)), .move (.t 20)⟩,
              ⟨(some 166), (some (164, true)), .move (.t 23)⟩,
              ⟨(some 167), (some (164, true)), .indexAddr 1 (.t 165) (.t 166)⟩,
              ⟨(some 168), (some (164, true)), .load false 1 (.t 167)⟩,
              ⟨(some 169), (some (164, true)), .un .not (.t 168)⟩,
              ⟨(some 170), none, .pick (.t 164) (.t 169) (.c (.bool false))⟩] (some [0, 2, 3, 9, 10, 14, 16, 18, 19, 20, 21, 22, 23, 24, 170]))
            (.cond (.t 170)
             .skip
             (.exit 8)))
            (.seq (.block 9
             (.seq (.opsd [(0, 0, ⟨(some 173), none, .move (.t 10)⟩),
               (1, 0, ⟨(some 174), none, .move (.t 24)⟩),
               (2, 0, ⟨(some 175), none, .move (.t 2)⟩),
               (3, 0, ⟨(some 176), none, .move (.t 21)⟩),
               (4, 0, ⟨(some 177), none, .move (.t 22)⟩),
               (5, 24, ⟨(some 178), none, .indexAddr 1 (.t 176) (.t 177)⟩),
               (6, 56, ⟨(some 179), none, .load false 1 (.t 178)⟩),
               (7, 124, ⟨(some 180), none, .indexAddr 1 (.t 175) (.t 179)⟩),
               (8, 252, ⟨(some 181), none, .load false 1 (.t 180)⟩),
               (9, 0, ⟨(some 182), none, .move (.t 2)⟩),
               (10, 0, ⟨(some 183), none, .move (.t 23)⟩),
               (11, 1536, ⟨(some 184), none, .indexAddr 1 (.t 182) (.t 183)⟩),
               (12, 3584, ⟨(some 185), none, .load false 1 (.t 184)⟩),
               (13, 8191, ⟨(some 186), none, .call (.c (.func (.func 17) #[] #[])) [(.t 173), (.t 174), (.t 181), (.t 185)]⟩)] (some [0, 2, 3, 9, 10, 14, 16, 18, 19, 20, 21, 22, 23, 24, 186]))
             (.cond (.t 186)
              (.seq (.ops [⟨(some 187), none, .move (.t 20)⟩,
                ⟨(some 188), none, .move (.t 23)⟩,
                ⟨(some 189), none, .indexAddr 1 (.t 187) (.t 188)⟩,
                ⟨none, none, .store 1 (.t 189) (.c (.bool true))⟩] (some [0, 2, 3, 9, 10, 14, 16, 18, 19, 20, 21, 22, 23, 24]))
              (.ops [⟨(some 190), none, .move (.t 21)⟩,
                ⟨(some 191), none, .move (.t 23)⟩,
                ⟨(some 192), none, .buildSlice [(.int .i64 0)] 1 1 [(0, (.t 191))]⟩,
                ⟨(some 193), none, .append 1 8 [(.int .i64 0)] (.t 190) (.t 192)⟩,
                ⟨(some 21), none, .move (.t 193)⟩] (some [0, 2, 3, 9, 10, 14, 16, 18, 19, 20, 21, 22, 23, 24])))
              .skip)))
            (.ops [⟨(some 171), none, .move (.t 24)⟩,
              ⟨(some 172), none, .bin .add 3 (.t 171) (.c (.int .i64 1))⟩,
              ⟨(some 24), none, .move (.t 172)⟩] (some [0, 2, 3, 9, 10, 14, 16, 18, 19, 20, 21, 22, 23, 24]))))))))
         (.ops [⟨(some 159), none, .move (.t 23)⟩,
           ⟨(some 160), none, .bin .add 3 (.t 159) (.c (.int .i64 1))⟩,
           ⟨(some 23), none, .move (.t 160)⟩] (some [0, 2, 3, 9, 10, 14, 16, 18, 19, 20, 21, 22, 23]))))
def x7L2 : XCode := (.seq (.seq (.ops [⟨(some 149), none, .move (.t 22)⟩,
        ⟨(some 150), none, .move (.t 21)⟩,
        ⟨(some 151), none, .len (.t 150)⟩,
        ⟨(some 152), none, .bin .lss 3 (.t 149) (.t 151)⟩] (some [0, 2, 3, 9, 10, 14, 16, 18, 19, 20, 21, 22, 152]))
      (.cond (.t 152)
       .skip
       (.exit 4)))
      (.seq (.block 5
       (.seq (.ops [⟨(some 23), none, .move (.c (.int .i64 0))⟩] (some [0, 2, 3, 9, 10, 14, 16, 18, 19, 20, 21, 22, 23]))
       (.block 6
        (.loop
         (.seq (.seq (.ops [⟨(some 155), none, .move (.t 23)⟩,
           ⟨(some 156), none, .move (.t 2)⟩,
           ⟨(some 157), none, .len (.t 156)⟩,
           ⟨(some 158), none, .bin .lss 3 (.t 155) (.t 157)⟩] (some [0, 2, 3, 9, 10, 14, 16, 18, 19, 20, 21, 22, 23, 158]))
         (.cond (.t 158)
          .skip
          (.exit 6)))
         (.seq (.block 7
          (.seq (.ops [⟨(some 24), none, .move (.c (.int .i64 0))⟩] (some [0, 2, 3, 9, 10, 14, 16, 18, 19, 20, 21, 22, 23, 24]))
          (.block 8
           (.loop
            (.seq (.seq (.ops [⟨(some 161), none, .move (.t 24)⟩,
              ⟨(some 162), none, .move (.t 0)⟩,
              ⟨(some 163), none, .bin .lss 3 (.t 161) (.t 162)⟩,
              ⟨(some 164), none, .move (.t 163)⟩,
              ⟨(some 165), (some (164, true)), .move (.t 20)⟩,
              ⟨(some 166), (some (164, true)), .move (.t 23)⟩,
              ⟨(some 167), (some (164, true)), .indexAddr 1 (.t 165) (.t 166)⟩,
              ⟨(some 168), (some (164, true)), .load false 1 (.t 167)⟩,
              ⟨(some 169), (some (164, true)), .un .not (.t 168)⟩,
              ⟨(some 170), none, .pick (.t 164) (.t 169) (.c (.bool false))⟩] (some [0, 2, 3, 9, 10, 14, 16, 18, 19, 20, 21, 22, 23, 24, 170]))
            (.cond (.t 170)
             .skip
             (.exit 8)))
            (.seq (.block 9
             (.seq (.opsd [(0, 0, ⟨(some 173), none, .move (.t 10)⟩),
               (1, 0, ⟨(some 174), none, .move (.t 24)⟩),
               (2, 0, ⟨(some 175), none, .move (.t 2)⟩),
               (3, 0, ⟨(some 176), none, .move (.t 21)⟩),
               (4, 0, ⟨(some 177), none, .move (.t 22)⟩),
               (5, 24, ⟨(some 178), none, .indexAddr 1 (.t 176) (.t 177)⟩),
               (6, 56, ⟨(some 179), none, .load false 1 (.t 178)⟩),
               (7, 124, ⟨(some 180), none, .indexAddr 1 (.t 175) (.t 179)⟩),
               (8, 252, ⟨(some 181), none, .load false 1 (.t 180)⟩),
               (9, 0, ⟨(some 182), none, .move (.t 2)⟩),
               (10, 0, ⟨(some 183), none, .move (.t 23)⟩),
               (11, 1536, ⟨(some 184), none, .indexAddr 1 (.t 182) (.t 183)⟩),
               (12, 3584, ⟨(some 185), none, .load false 1 (.t 184)⟩),
               (13, 8191, ⟨(some 186), none, .call (.c (.func (.func 17) #[] #[])) [(.t 173), (.t 174), (.t 181), (.t 185)]⟩)] (some [0, 2, 3, 9, 10, 14, 16, 18, 19, 20, 21, 22, 23, 24, 186]))
             (.cond (.t 186)
              (.seq (.ops [⟨(some 187), none, .move (.t 20)⟩,
                ⟨(some 188), none, .move (.t 23)⟩,
                ⟨(some 189), none, .indexAddr 1 (.t 187) (.t 188)⟩,
                ⟨none, none, .store 1 (.t 189) (.c (.bool true))⟩] (some [0, 2, 3, 9, 10, 14, 16, 18, 19, 20, 21, 22, 23, 24]))
              (.ops [⟨(some 190), none, .move (.t 21)⟩,
                ⟨(some 191), none, .move (.t 23)⟩,
                ⟨(some 192), none, .buildSlice [(.int .i64 0)] 1 1 [(0, (.t 191))]⟩,
                ⟨(some 193), none, .append 1 8 [(.int .i64 0)] (.t 190) (.t 192)⟩,
                ⟨(some 21), none, .move (.t 193)⟩] (some [0, 2, 3, 9, 10, 14, 16, 18, 19, 20, 21, 22, 23, 24])))
              .skip)))
            (.ops [⟨(some 171), none, .move (.t 24)⟩,
              ⟨(some 172), none, .bin .add 3 (.t 171) (.c (.int .i64 1))⟩,
              ⟨(some 24), none, .move (.t 172)⟩] (some [0, 2, 3, 9, 10, 14, 16, 18, 19, 20, 21, 22, 23, 24]))))))))
         (.ops [⟨(some 159), none, .move (.t 23)⟩,
           ⟨(some 160), none, .bin .add 3 (.t 159) (.c (.int .i64 1))⟩,
           ⟨(some 23), none, .move (.t 160)⟩] (some [0, 2, 3, 9, 10, 14, 16, 18, 19, 20, 21, 22, 23]))))))))
      (.ops [⟨(some 153), none, .move (.t 22)⟩,
        ⟨(some 154), none, .bin .add 3 (.t 153) (.c (.int .i64 1))⟩,
        ⟨(some 22), none, .move (.t 154)⟩] (some [0, 2, 3, 9, 10, 14, 16, 18, 19, 20, 21, 22]))))
abbrev QEnv (k : Nat) (vr : Value) (g : Int) (t bq : Nat) (ov lv : Value) (c i n sid : Nat) (td : Value) (q : Nat) : Env := [(0, I k), (2, vr), (3, U g), (9, Pt t), (10, Pt bq), (14, ov), (16, lv), (18, I c), (19, I i), (20, RowV n sid), (21, td), (22, I q)]
abbrev JEnv (k : Nat) (vr : Value) (g : Int) (t bq : Nat) (ov lv : Value) (c i n sid : Nat) (td : Value) (q j : Nat) : Env := [(0, I k), (2, vr), (3, U g), (9, Pt t), (10, Pt bq), (14, ov), (16, lv), (18, I c), (19, I i), (20, RowV n sid), (21, td), (22, I q), (23, I j)]
abbrev WEnv (k : Nat) (vr : Value) (g : Int) (t bq : Nat) (ov lv : Value) (c i n sid : Nat) (td : Value) (q j w : Nat) : Env := [(0, I k), (2, vr), (3, U g), (9, Pt t), (10, Pt bq), (14, ov), (16, lv), (18, I c), (19, I i), (20, RowV n sid), (21, td), (22, I q), (23, I j), (24, I w)]

section
variable {m m0 : Mem} {b t r bq : Nat} {Fq : List Nat} {pq : Option Addr} {vr ov lv : Value} {T : Tb} {R : Rf} {rooms : List (List Int)} {W : Nat → Nat → Bool} {lk : List (Nat × Nat)} {g : Int} {c i sid q j x : Nat} {S : Nat → Bool} {todo : List Nat} {td : Value} {G : List Nat} {K : List XItem} {Q N : Post} {B : Nat → Post}
theorem who_loop (hC : Cx m b t r bq Fq pq vr ov lv T R rooms W lk) (hD : Dx T R rooms) (hS : StAt m b rooms.length sid S todo td G) (hl : todo.length ≤ 100) (hx : todo[q]? = some x) (hxn : x < rooms.length) (hj : j < rooms.length)
    (h : ∀ m' S' todo' td' G' w, Fm (fun z => b ≤ z) m m' → StAt m' b rooms.length sid S' todo' td' G' → S' = stepS (edge T rooms) S x j → todo' = stepT (edge T rooms) S todo x j → Ex Try.prog tabK 8 K (WEnv T.l.length vr g t bq ov lv c i rooms.length sid td' q j w ++ [(170, .bool false)]) m' Q N B) :
    Go' Try.prog tabK (.code (.loop x7L4) :: K) (WEnv T.l.length vr g t bq ov lv c i rooms.length sid td q j 0) m Q N B := by
  have hT8 := hD.wf.hi
  have hql : q < todo.length := (List.getElem?_eq_some_iff.1 hx).1
  obtain ⟨us, hus⟩ : ∃ us, rooms[x]? = some us := ⟨_, List.getElem?_eq_getElem hxn⟩
  obtain ⟨ws, hws⟩ : ∃ ws, rooms[j]? = some ws := ⟨_, List.getElem?_eq_getElem hj⟩
  have hE : edge T rooms x j = anyT T us ws := by unfold edge; rw [hus, hws]; rfl
  have same : S j = true ∨ anyT T us ws = false → S = stepS (edge T rooms) S x j ∧ todo = stepT (edge T rooms) S todo x j := fun hh => by
    unfold stepS stepT
    rw [hE]
    constructor
    · funext cc
      by_cases hc : cc = j
      · subst hc
        rw [if_pos rfl]
        rcases hh with hh | hh <;> rw [hh] <;> simp
      · rw [if_neg hc]
    · rcases hh with hh | hh <;> rw [hh] <;> simp
  refine loop_go (fun jj e m' => Fm (fun z => b ≤ z) m m' ∧ ∃ (w : Nat) (S' : Nat → Bool) (todo' : List Nat) (td' : Value) (G' : List Nat), w ≤ T.l.length ∧ jj = T.l.length - w ∧ StAt m' b rooms.length sid S' todo' td' G' ∧
    ((S' = S ∧ todo' = todo ∧ ∀ w' : Nat, w' < w → mayT T (w' : Int) us ws = false) ∨ (S' j = true ∧ S' = stepS (edge T rooms) S x j ∧ todo' = stepT (edge T rooms) S todo x j)) ∧ e = WEnv T.l.length vr g t bq ov lv c i rooms.length sid td' q j w) T.l.length ⟨.refl, 0, S, todo, td, G, by omega, rfl, hS, .inl ⟨rfl, rfl, fun w' h => by omega⟩, rfl⟩ ?_
  rintro jj e m' N' B' hN hB ⟨fm, w, S', todo', td', G', hw, rfl, hS', hor, rfl⟩
  unfold x7L4
  have hC' := hC.fr fm
  have q1 := cellsB_at (f := S') hj
  have gs := hS'.seen
  by_cases hwt : w < T.l.length
  · have hwt' : (w : Int) < (T.l.length : Int) := by omega
    cases hSj : S' j with
    | true =>
      rw [hSj] at q1
      have fin : S' = stepS (edge T rooms) S x j ∧ todo' = stepT (edge T rooms) S todo x j := by
        rcases hor with ⟨rfl, rfl, _⟩ | ⟨_, h1, h2⟩
        · exact same (.inl hSj)
        · exact ⟨h1, h2⟩
      simp only [symA, go_opsd, symB, wantedX, X.put, X.look, Arg.ev, keepOf, restrict, evs, evO, initEnv, xres, tup, noTup, cls, quiet, Nat.reduceAdd, Nat.reduceEqDiff, ↓reduceIte, reduceCtorEq, goInt, exists_eq_left', eq_self, Int.reduceLT, Int.reduceLE, Int.reduceEq, Int.reduceNeg, Int.reduceAdd, Int.reduceSub, forall_const, ne_eq, undef, Nat.reducePow, Nat.reduceDiv, Nat.reduceMod, hwt', hj, gs, q1]
      exact hB _ _ _ (h m' S' todo' td' G' w fm hS' fin.1 fin.2)
    | false =>
      rw [hSj] at q1
      rcases hor with ⟨rfl, rfl, hno⟩ | ⟨h1, _⟩
      case inr => rw [hSj] at h1; cases h1
      have ww : IntKind.i64.wrap ((w : Int) + 1) = ((w + 1 : Nat) : Int) := by rw [wrap_i64 (by omega) (by omega)]; omega
      obtain ⟨ta, tc, to, rfl, hto, htc⟩ := hS'.at hx
      obtain ⟨a, c3, o3, p3, c3', hva3, ho3, hc3, hru⟩ := hC'.rms.at hus
      obtain ⟨a4, c4, o4, p4, c4', hva4, ho4, hc4, hrw⟩ := hC'.rms.at hws
      subst hva3
      cases hva4
      rw [ho3] at ho4
      cases ho4
      obtain ⟨m2, k17, f2⟩ := rmay_val (w := w) hC'.ref hD (List.mem_of_getElem? hus) (List.mem_of_getElem? hws) hru hrw hC'.next hwt
      simp only [symA, symF, Nat.reduceOr, Nat.reduceAnd, Nat.reduceShiftLeft, Nat.zero_or, symB, wantedX, X.put, X.look, Arg.ev, keepOf, restrict, evs, evO, initEnv, xres, tup, noTup, cls, quiet, Nat.reduceAdd, Nat.reduceEqDiff, ↓reduceIte, reduceCtorEq, goInt, exists_eq_left', eq_self, Int.reduceLT, Int.reduceLE, Int.reduceEq, Int.reduceNeg, Int.reduceAdd, Int.reduceSub, forall_const, ne_eq, undef, Nat.reducePow, Nat.reduceDiv, Nat.reduceMod, hwt', hj, gs, q1]
      refine goF_of ?_
      cases hm : mayT T (w : Int) us ws with
      | false =>
        rw [hm] at k17
        simp only [symA, symF, Nat.reduceOr, Nat.reduceAnd, Nat.reduceShiftLeft, Nat.zero_or, symB, wantedX, X.put, X.look, Arg.ev, keepOf, restrict, evs, evO, initEnv, xres, tup, noTup, cls, quiet, Nat.reduceAdd, Nat.reduceEqDiff, ↓reduceIte, reduceCtorEq, goInt, exists_eq_left', eq_self, Int.reduceLT, Int.reduceLE, Int.reduceEq, Int.reduceNeg, Int.reduceAdd, Int.reduceSub, forall_const, ne_eq, undef, Nat.reducePow, Nat.reduceDiv, Nat.reduceMod, hql, hxn, hj, hto, htc, ho3, hc3, hc4, goFV3c k17, ww]
        refine hN _ _ (T.l.length - (w + 1)) (by omega) ⟨fm.trans (f2.mono fun _ _ h => h.elim), w + 1, S', todo', _, G', by omega, rfl, hS'.nx f2, .inl ⟨rfl, rfl, fun w' hw' => ?_⟩, rfl⟩
        by_cases hww : w' = w
        · subst hww; exact hm
        · exact hno w' (by omega)
      | true =>
        rw [hm] at k17
        obtain ⟨m5, m6, v', m7, G7, s1, s2, s3, s4, s5⟩ := (hS'.nx f2).push (by have := hC'.next; have := f2.next; omega) hj hl
        simp only [symA, symF, Nat.reduceOr, Nat.reduceAnd, Nat.reduceShiftLeft, Nat.zero_or, symB, wantedX, X.put, X.look, Arg.ev, keepOf, restrict, evs, evO, initEnv, xres, tup, noTup, cls, quiet, Nat.reduceAdd, Nat.reduceEqDiff, ↓reduceIte, reduceCtorEq, goInt, exists_eq_left', eq_self, Int.reduceLT, Int.reduceLE, Int.reduceEq, Int.reduceNeg, Int.reduceAdd, Int.reduceSub, forall_const, ne_eq, undef, Nat.reducePow, Nat.reduceDiv, Nat.reduceMod, hql, hxn, hj, hto, htc, ho3, hc3, hc4, goFV3c k17, s1, s2, s3, ww]
        have hany : anyT T us ws = true := by
          unfold anyT
          rw [List.any_eq_true]
          exact ⟨w, List.mem_range.2 hwt, hm⟩
        refine hN _ _ (T.l.length - (w + 1)) (by omega) ⟨(fm.trans (f2.mono fun _ _ h => h.elim)).trans s5, w + 1, _, _, _, G7, by omega, rfl, s4, .inr ⟨by simp, ?_, ?_⟩, rfl⟩
        · unfold stepS
          rw [hE, hany, hSj]
          rfl
        · unfold stepT
          rw [hE, hany, hSj]
          rfl
  · have hwt' : ¬ (w : Int) < (T.l.length : Int) := by omega
    have fin : S' = stepS (edge T rooms) S x j ∧ todo' = stepT (edge T rooms) S todo x j := by
      rcases hor with ⟨rfl, rfl, hno⟩ | ⟨_, h1, h2⟩
      · refine same (.inr ?_)
        unfold anyT
        rw [List.any_eq_false]
        intro w' hw'
        rw [hno w' (by have := List.mem_range.1 hw'; omega)]
        simp
      · exact ⟨h1, h2⟩
    simp only [symA, go_opsd, symB, wantedX, X.put, X.look, Arg.ev, keepOf, restrict, evs, evO, initEnv, xres, tup, noTup, cls, quiet, Nat.reduceAdd, Nat.reduceEqDiff, ↓reduceIte, reduceCtorEq, goInt, exists_eq_left', eq_self, Int.reduceLT, Int.reduceLE, Int.reduceEq, Int.reduceNeg, Int.reduceAdd, Int.reduceSub, forall_const, ne_eq, undef, Nat.reducePow, Nat.reduceDiv, Nat.reduceMod, hwt']
    exact hB _ _ _ (h m' S' todo' td' G' w fm hS' fin.1 fin.2)

theorem q_loop (hC : Cx m b t r bq Fq pq vr ov lv T R rooms (wayA T rooms) lk) (hD : Dx T R rooms) (hi : i < rooms.length) (hS : StAt m b rooms.length sid S todo td G) (hR : Rch rooms.length i (edge T rooms) (wayA T rooms) S todo 0 0)
    (h : ∀ m' S' todo' td' G' q, Fm (fun z => b ≤ z) m m' → StAt m' b rooms.length sid S' todo' td' G' → (∀ j, j < rooms.length → S' j = wayA T rooms i j) → Ex Try.prog tabK 4 K (QEnv T.l.length vr g t bq ov lv c i rooms.length sid td' q ++ [(152, .bool false)]) m' Q N B) :
    Go' Try.prog tabK (.code (.loop x7L2) :: K) (QEnv T.l.length vr g t bq ov lv c i rooms.length sid td 0) m Q N B := by
  have hn5 := hD.n
  have hEW : ∀ a c, a < rooms.length → c < rooms.length → edge T rooms a c = true → wayA T rooms i a = true → wayA T rooms i c = true := fun a c ha hc hE h => way_edge hi ha hc hE h
  refine loop_go (fun jj e m' => Fm (fun z => b ≤ z) m m' ∧ ∃ (q : Nat) (S' : Nat → Bool) (todo' : List Nat) (td' : Value) (G' : List Nat), q ≤ todo'.length ∧ jj = rooms.length - q ∧ StAt m' b rooms.length sid S' todo' td' G' ∧ Rch rooms.length i (edge T rooms) (wayA T rooms) S' todo' q 0 ∧
    e = QEnv T.l.length vr g t bq ov lv c i rooms.length sid td' q) rooms.length ⟨.refl, 0, S, todo, td, G, by omega, rfl, hS, hR, rfl⟩ ?_
  rintro jj e m1 N1 B1 hN1 hB1 ⟨f1, q, S1, todo1, td1, G1, hq, rfl, hS1, hR1, rfl⟩
  unfold x7L2
  have hlen := hR1.len
  obtain ⟨pt, ct, rfl⟩ := hS1.slice
  obtain ⟨pr, cr, hvr⟩ := hC.rms.slice
  subst hvr
  by_cases hlt : q < todo1.length
  · have hlt' : (q : Int) < (todo1.length : Int) := by omega
    obtain ⟨x, hx⟩ : ∃ x, todo1[q]? = some x := ⟨_, List.getElem?_eq_getElem hlt⟩
    have hxn := ((hR1.mem x).1 (List.mem_of_getElem? hx)).1
    have wq : IntKind.i64.wrap ((q : Int) + 1) = ((q + 1 : Nat) : Int) := by rw [wrap_i64 (by omega) (by omega)]; omega
    simp only [symA, go_opsd, symB, wantedX, X.put, X.look, Arg.ev, keepOf, restrict, evs, evO, initEnv, xres, tup, noTup, cls, quiet, Nat.reduceAdd, Nat.reduceEqDiff, ↓reduceIte, reduceCtorEq, goInt, exists_eq_left', eq_self, Int.reduceLT, Int.reduceLE, Int.reduceEq, Int.reduceNeg, Int.reduceAdd, Int.reduceSub, forall_const, ne_eq, undef, Nat.reducePow, Nat.reduceDiv, Nat.reduceMod, hlt']
    refine loop_go (fun jj e m' => Fm (fun z => b ≤ z) m m' ∧ ∃ (j : Nat) (S' : Nat → Bool) (todo' : List Nat) (td' : Value) (G' : List Nat), j ≤ rooms.length ∧ jj = rooms.length - j ∧ StAt m' b rooms.length sid S' todo' td' G' ∧ Rch rooms.length i (edge T rooms) (wayA T rooms) S' todo' q j ∧ todo'[q]? = some x ∧
      e = JEnv T.l.length (.slice pr rooms.length cr) g t bq ov lv c i rooms.length sid td' q j) rooms.length ⟨f1, 0, S1, todo1, _, G1, by omega, rfl, hS1, hR1, hx, rfl⟩ ?_
    rintro jj e m2 N2 B2 hN2 hB2 ⟨f2, j, S2, todo2, td2, G2, hj, rfl, hS2, hR2, hx2, rfl⟩
    by_cases hjt : j < rooms.length
    · have hjt' : (j : Int) < (rooms.length : Int) := by omega
      have wj : IntKind.i64.wrap ((j : Int) + 1) = ((j + 1 : Nat) : Int) := by rw [wrap_i64 (by omega) (by omega)]; omega
      simp only [symA, go_opsd, symB, wantedX, X.put, X.look, Arg.ev, keepOf, restrict, evs, evO, initEnv, xres, tup, noTup, cls, quiet, Nat.reduceAdd, Nat.reduceEqDiff, ↓reduceIte, reduceCtorEq, goInt, exists_eq_left', eq_self, Int.reduceLT, Int.reduceLE, Int.reduceEq, Int.reduceNeg, Int.reduceAdd, Int.reduceSub, forall_const, ne_eq, undef, Nat.reducePow, Nat.reduceDiv, Nat.reduceMod, hjt']
      refine who_loop (hC.fr f2) hD hS2 (by have := hR2.len; omega) hx2 hxn hjt ?_
      intro m3 S3 todo3 td3 G3 w f3 hS3 e1 e2
      obtain ⟨hR3, hx3⟩ := hR2.step hx2 hjt hEW
      rw [← e1, ← e2] at hR3
      rw [← e2] at hx3
      show Ex _ _ _ _ [(0, _), (2, _), (3, _), (9, _), (10, _), (14, _), (16, _), (18, _), (19, _), (20, _), (21, _), (22, _), (23, _), (24, _), (170, _)] _ _ _ _
      simp only [symA, go_opsd, symB, wantedX, X.put, X.look, Arg.ev, keepOf, restrict, evs, evO, initEnv, xres, tup, noTup, cls, quiet, Nat.reduceAdd, Nat.reduceEqDiff, ↓reduceIte, reduceCtorEq, goInt, exists_eq_left', eq_self, Int.reduceLT, Int.reduceLE, Int.reduceEq, Int.reduceNeg, Int.reduceAdd, Int.reduceSub, forall_const, ne_eq, undef, Nat.reducePow, Nat.reduceDiv, Nat.reduceMod, wj]
      exact hN2 _ _ (rooms.length - (j + 1)) (by omega) ⟨f2.trans f3, j + 1, S3, todo3, td3, G3, by omega, rfl, hS3, hR3, hx3, rfl⟩
    · have hjt' : ¬ (j : Int) < (rooms.length : Int) := by omega
      have hje : j = rooms.length := by omega
      subst hje
      have hq2 : q < todo2.length := (List.getElem?_eq_some_iff.1 hx2).1
      simp only [symA, go_opsd, symB, wantedX, X.put, X.look, Arg.ev, keepOf, restrict, evs, evO, initEnv, xres, tup, noTup, cls, quiet, Nat.reduceAdd, Nat.reduceEqDiff, ↓reduceIte, reduceCtorEq, goInt, exists_eq_left', eq_self, Int.reduceLT, Int.reduceLE, Int.reduceEq, Int.reduceNeg, Int.reduceAdd, Int.reduceSub, forall_const, ne_eq, undef, Nat.reducePow, Nat.reduceDiv, Nat.reduceMod, hjt']
      refine hB2 _ _ _ ?_
      simp only [symA, go_opsd, symB, wantedX, X.put, X.look, Arg.ev, keepOf, restrict, evs, evO, initEnv, xres, tup, noTup, cls, quiet, Nat.reduceAdd, Nat.reduceEqDiff, ↓reduceIte, reduceCtorEq, goInt, exists_eq_left', eq_self, Int.reduceLT, Int.reduceLE, Int.reduceEq, Int.reduceNeg, Int.reduceAdd, Int.reduceSub, forall_const, ne_eq, undef, Nat.reducePow, Nat.reduceDiv, Nat.reduceMod, wq]
      have hl2 := hR2.len
      exact hN1 _ _ (rooms.length - (q + 1)) (by omega) ⟨f2, q + 1, S2, todo2, td2, G2, by omega, rfl, hS2, hR2.next, rfl⟩
  · have hlt' : ¬ (q : Int) < (todo1.length : Int) := by omega
    have hqe : q = todo1.length := by omega
    subst hqe
    simp only [symA, go_opsd, symB, wantedX, X.put, X.look, Arg.ev, keepOf, restrict, evs, evO, initEnv, xres, tup, noTup, cls, quiet, Nat.reduceAdd, Nat.reduceEqDiff, ↓reduceIte, reduceCtorEq, goInt, exists_eq_left', eq_self, Int.reduceLT, Int.reduceLE, Int.reduceEq, Int.reduceNeg, Int.reduceAdd, Int.reduceSub, forall_const, ne_eq, undef, Nat.reducePow, Nat.reduceDiv, Nat.reduceMod, hlt']
    exact hB1 _ _ _ (h m1 S1 todo1 _ G1 _ f1 hS1 (fun j hj => hR1.done hj))
end
end Go.Proofs.Ytfjeccaffenngaa
