/-
  Own work. The sort of texts.
-/
import Derived.Test.YtlldfkapaeidoaaS4
namespace Go.Proofs.Ytlldfkapaeidoaa
open Go X
set_option maxRecDepth 100000
set_option maxHeartbeats 1000000
attribute [local irreducible] X.Go' X.GoO X.GoR X.GoG X.GoC X.GoF X.GoFV X.GoFG X.Ex X.GoD X.GoDV X.GoDG
set_option linter.unusedVariables false
set_option linter.unusedSimpArgs false

/-- All is in order but what lies between a' and b'. -/
structure Mid (a b a' b' : Nat) (l : List ByteArray) : Prop where
  s1 : Srt ltT a a' l
  s2 : Srt ltT b' b l
  c1 : ∀ p q x y, a ≤ p → p < a' → a' ≤ q → q < b → l[p]? = some x → l[q]? = some y → ¬ ltT y x
  c2 : ∀ p q x y, a ≤ p → p < b' → b' ≤ q → q < b → l[p]? = some x → l[q]? = some y → ¬ ltT y x
section
variable {a b a' b' i j : Nat} {l l' : List ByteArray} {p : ByteArray}
theorem Mid.start : Mid a b a b l := ⟨.one (by omega), .one (by omega), fun p q x y h1 h2 => by omega, fun p q x y h1 h2 h3 h4 => by omega⟩
theorem Mid.pm (h : Mid a b a' b' l) (hp : Pm a' b' l l') (h1 : a ≤ a') (h2 : a' ≤ b') (h3 : b' ≤ b) : Mid a b a' b' l' := by
  refine ⟨h.s1.off hp (.inl (Nat.le_refl _)), h.s2.off hp (.inr (Nat.le_refl _)), fun p q x y k1 k2 k3 k4 hx hy => ?_, fun p q x y k1 k2 k3 k4 hx hy => ?_⟩
  · rw [hp.same p (.inl k2)] at hx
    by_cases hq : q < b'
    · obtain ⟨z, z1, z2, z3⟩ := hp.mem h2 k3 hq hy
      exact h.c1 p z x y k1 k2 z1 (by omega) hx z3
    · rw [hp.same q (.inr (by omega))] at hy
      exact h.c1 p q x y k1 k2 k3 k4 hx hy
  · rw [hp.same q (.inr k3)] at hy
    by_cases hpa : a' ≤ p
    · obtain ⟨z, z1, z2, z3⟩ := hp.mem h2 hpa k2 hx
      exact h.c2 z q x y (by omega) z2 k3 k4 z3 hy
    · rw [hp.same p (.inl (by omega))] at hx
      exact h.c2 p q x y k1 k2 k3 k4 hx hy
theorem Mid.done (h : Mid a b a' b' l) (hs : Srt ltT a' b' l) (h1 : a ≤ a') (h2 : a' ≤ b') (h3 : b' ≤ b) : Srt ltT a b l := by
  refine Srt.glue h.s1 (Srt.glue hs h.s2 fun i j x y k1 k2 k3 k4 hx hy => h.c2 i j x y (by omega) k2 k3 k4 hx hy) fun i j x y k1 k2 k3 k4 hx hy => h.c1 i j x y k1 k2 k3 k4 hx hy
theorem Mid.low (h : Mid a b a' b' l) (hl : Low a b l) (h1 : a ≤ a') (h3 : b' ≤ b) : Low a' b' l := by
  intro z k x h0 hz k1 k2 hx
  by_cases hq : a' = a
  · subst hq
    exact hl z k x h0 hz k1 (by omega) hx
  · exact h.c1 (a' - 1) k z x (by omega) (by omega) k1 (by omega) hz hx
theorem Mid.eq (h : Mid a b a' b' l) (h1 : a ≤ a') (h3 : b' ≤ b) (hi : a' < i) (hib : i ≤ b') (hlow : Low a' b' l) {z : ByteArray} (h0 : 0 < a') (hz : l[a' - 1]? = some z) (hzp : ¬ ltT z p)
    (hL : ∀ k x, a' ≤ k → k < i → l[k]? = some x → ¬ ltT p x) (hR : ∀ k x, i ≤ k → k < b' → l[k]? = some x → ltT p x) : Mid a b i b' l := by
  have ge : ∀ k x, a' ≤ k → k < i → l[k]? = some x → ¬ ltT x p := fun k x k1 k2 hx => ordT.le_trans hzp (hlow z k x h0 hz k1 (by omega) hx)
  refine ⟨Srt.glue h.s1 (fun p1 q x y k1 k2 k3 hx hy => ordT.le_trans (hL p1 x k1 (by omega) hx) (ge q y (by omega) k3 hy)) fun p1 q x y k1 k2 k3 k4 hx hy => h.c1 p1 q x y k1 k2 k3 (by omega) hx hy, h.s2, fun p1 q x y k1 k2 k3 k4 hx hy => ?_, h.c2⟩
  by_cases hp1 : p1 < a'
  · exact h.c1 p1 q x y k1 hp1 (by omega) k4 hx hy
  · by_cases hq : q < b'
    · intro hyx
      exact hL p1 x (by omega) k2 hx (ordT.tr _ _ _ (hR q y k3 hq hy) hyx)
    · exact h.c2 p1 q x y k1 (by omega) (by omega) k4 hx hy
theorem Mid.left (h : Mid a b a' b' l) (h1 : a ≤ a') (h3 : b' ≤ b) (hj : a' ≤ j) (hjb : j < b') (hs : Srt ltT a' j l) (hp : l[j]? = some p) (hA : ∀ k x, a' ≤ k → k < j → l[k]? = some x → ltT x p) (hB : ∀ k x, j ≤ k → k < b' → l[k]? = some x → ¬ ltT x p) : Mid a b (j + 1) b' l := by
  have up : ∀ q y, j < q → q < b → l[q]? = some y → ¬ ltT y p := fun q y k1 k2 hy => by
    by_cases hq : q < b'
    · exact hB q y (by omega) hq hy
    · exact h.c2 j q p y (by omega) hjb (by omega) k2 hp hy
  refine ⟨fun p1 q x y k1 k2 k3 hx hy => ?_, h.s2, fun p1 q x y k1 k2 k3 k4 hx hy => ?_, h.c2⟩
  · by_cases hq : q < a'
    · exact h.s1 p1 q x y k1 k2 hq hx hy
    · by_cases hp1 : p1 < a'
      · exact h.c1 p1 q x y k1 hp1 (by omega) (by omega) hx hy
      · by_cases hqj : q = j
        · subst hqj
          rw [hp] at hy; cases hy
          exact ordT.asymm (hA p1 x (by omega) k2 hx)
        · exact hs p1 q x y (by omega) k2 (by omega) hx hy
  · by_cases hp1 : p1 < a'
    · exact h.c1 p1 q x y k1 hp1 (by omega) k4 hx hy
    · by_cases hpj : p1 = j
      · subst hpj
        rw [hp] at hx; cases hx
        exact up q y (by omega) k4 hy
      · intro hyx
        exact up q y (by omega) k4 hy (ordT.tr _ _ _ hyx (hA p1 x (by omega) (by omega) hx))
theorem Mid.right (h : Mid a b a' b' l) (h1 : a ≤ a') (h3 : b' ≤ b) (hj : a' ≤ j) (hjb : j < b') (hs : Srt ltT (j + 1) b' l) (hp : l[j]? = some p) (hA : ∀ k x, a' ≤ k → k < j → l[k]? = some x → ltT x p) (hB : ∀ k x, j ≤ k → k < b' → l[k]? = some x → ¬ ltT x p) : Mid a b a' j l := by
  have up : ∀ q y, j ≤ q → q < b → l[q]? = some y → ¬ ltT y p := fun q y k1 k2 hy => by
    by_cases hq : q < b'
    · exact hB q y (by omega) hq hy
    · exact h.c2 j q p y (by omega) hjb (by omega) k2 hp hy
  refine ⟨h.s1, fun p1 q x y k1 k2 k3 hx hy => ?_, h.c1, fun p1 q x y k1 k2 k3 k4 hx hy => ?_⟩
  · by_cases hpj : p1 = j
    · subst hpj
      rw [hp] at hx; cases hx
      exact up q y (by omega) k3 hy
    · by_cases hp1 : p1 < b'
      · by_cases hq : q < b'
        · exact hs p1 q x y (by omega) k2 hq hx hy
        · exact h.c2 p1 q x y (by omega) hp1 (by omega) k3 hx hy
      · exact h.s2 p1 q x y (by omega) k2 k3 hx hy
  · by_cases hp1 : p1 < a'
    · exact h.c1 p1 q x y k1 hp1 (by omega) k4 hx hy
    · intro hyx
      exact up q y k3 k4 hy (ordT.tr _ _ _ hyx (hA p1 x (by omega) k2 hx))
end

def x47T : XCode := (.seq (.seq (.opsd [(0, 0, ⟨(some 73), none, .move (.t 1)⟩),
      (1, 1, ⟨(some 74), none, .bin .gtr 3 (.t 73) (.c (.int .i64 0))⟩),
      (2, 3, ⟨(some 75), none, .move (.t 74)⟩),
      (3, 7, ⟨(some 76), (some (75, true)), .move (.t 0)⟩),
      (4, 7, ⟨(some 77), (some (75, true)), .move (.t 1)⟩),
      (5, 23, ⟨(some 78), (some (75, true)), .bin .sub 3 (.t 77) (.c (.int .i64 1))⟩),
      (6, 63, ⟨(some 79), (some (75, true)), .indexAddr 1 (.t 76) (.t 78)⟩),
      (7, 127, ⟨(some 80), (some (75, true)), .load false 1 (.t 79)⟩),
      (8, 7, ⟨(some 81), (some (75, true)), .move (.t 0)⟩),
      (9, 7, ⟨(some 82), (some (75, true)), .move (.t 11)⟩),
      (10, 775, ⟨(some 83), (some (75, true)), .indexAddr 1 (.t 81) (.t 82)⟩),
      (11, 1799, ⟨(some 84), (some (75, true)), .load false 1 (.t 83)⟩),
      (12, 4095, ⟨(some 85), (some (75, true)), .call (.c (.func (.func 61) #[] #[])) [(.t 80), (.t 84)]⟩),
      (13, 8191, ⟨(some 86), (some (75, true)), .un .not (.t 85)⟩),
      (14, 16383, ⟨(some 87), none, .pick (.t 75) (.t 86) (.c (.bool false))⟩)] (some [0, 1, 2, 3, 8, 9, 10, 11, 87]))
    (.cond (.t 87)
     (.seq (.ops [⟨(some 88), none, .move (.t 0)⟩,
       ⟨(some 89), none, .move (.t 1)⟩,
       ⟨(some 90), none, .move (.t 2)⟩,
       ⟨(some 91), none, .move (.t 11)⟩,
       ⟨(some 92), none, .call (.c (.func (.func 62) #[] #[])) [(.t 88), (.t 89), (.t 90), (.t 91)]⟩,
       ⟨(some 13), none, .move (.t 92)⟩] (some [0, 2, 3, 8, 9, 13]))
     (.seq (.ops [⟨(some 93), none, .move (.t 13)⟩,
       ⟨(some 1), none, .move (.t 93)⟩] (some [0, 1, 2, 3, 8, 9]))
     (.exit 1)))
     .skip))
    (.seq (.ops [⟨(some 95), none, .move (.t 0)⟩,
      ⟨(some 96), none, .move (.t 1)⟩,
      ⟨(some 97), none, .move (.t 2)⟩,
      ⟨(some 98), none, .move (.t 11)⟩,
      ⟨(some 99), none, .call (.c (.func (.func 63) #[] #[])) [(.t 95), (.t 96), (.t 97), (.t 98)]⟩,
      ⟨(some 94), none, .move (.t 99)⟩,
      ⟨(some 100), none, .extract (.t 94) 0⟩,
      ⟨(some 101), none, .extract (.t 94) 1⟩,
      ⟨(some 14), none, .move (.t 100)⟩,
      ⟨(some 15), none, .move (.t 101)⟩] (some [0, 1, 2, 3, 10, 14, 15]))
    (.seq (.ops [⟨(some 102), none, .move (.t 15)⟩,
      ⟨(some 9), none, .move (.t 102)⟩] (some [0, 1, 2, 3, 9, 10, 14]))
    (.seq (.ops [⟨(some 103), none, .move (.t 14)⟩,
      ⟨(some 104), none, .move (.t 1)⟩,
      ⟨(some 105), none, .bin .sub 3 (.t 103) (.t 104)⟩,
      ⟨(some 106), none, .move (.t 2)⟩,
      ⟨(some 107), none, .move (.t 14)⟩,
      ⟨(some 108), none, .bin .sub 3 (.t 106) (.t 107)⟩,
      ⟨(some 16), none, .move (.t 105)⟩,
      ⟨(some 17), none, .move (.t 108)⟩] (some [0, 1, 2, 3, 9, 10, 14, 16, 17]))
    (.seq (.ops [⟨(some 109), none, .move (.t 10)⟩,
      ⟨(some 110), none, .bin .quo 3 (.t 109) (.c (.int .i64 8))⟩,
      ⟨(some 18), none, .move (.t 110)⟩] (some [0, 1, 2, 3, 9, 14, 16, 17, 18]))
    (.seq (.ops [⟨(some 111), none, .move (.t 16)⟩,
      ⟨(some 112), none, .move (.t 17)⟩,
      ⟨(some 113), none, .bin .lss 3 (.t 111) (.t 112)⟩] (some [0, 1, 2, 3, 9, 14, 16, 17, 18, 113]))
    (.cond (.t 113)
     (.seq (.ops [⟨(some 114), none, .move (.t 16)⟩,
       ⟨(some 115), none, .move (.t 18)⟩,
       ⟨(some 116), none, .bin .geq 3 (.t 114) (.t 115)⟩,
       ⟨(some 8), none, .move (.t 116)⟩] (some [0, 1, 2, 3, 8, 9, 14]))
     (.seq (.ops [⟨(some 117), none, .move (.t 0)⟩,
       ⟨(some 118), none, .move (.t 1)⟩,
       ⟨(some 119), none, .move (.t 14)⟩,
       ⟨(some 120), none, .move (.t 3)⟩,
       ⟨(some 121), none, .call (.c (.func (.func 47) #[] #[])) [(.t 117), (.t 118), (.t 119), (.t 120)]⟩] (some [0, 2, 3, 8, 9, 14]))
     (.ops [⟨(some 122), none, .move (.t 14)⟩,
       ⟨(some 123), none, .bin .add 3 (.t 122) (.c (.int .i64 1))⟩,
       ⟨(some 1), none, .move (.t 123)⟩] (some [0, 1, 2, 3, 8, 9]))))
     (.seq (.ops [⟨(some 124), none, .move (.t 17)⟩,
       ⟨(some 125), none, .move (.t 18)⟩,
       ⟨(some 126), none, .bin .geq 3 (.t 124) (.t 125)⟩,
       ⟨(some 8), none, .move (.t 126)⟩] (some [0, 1, 2, 3, 8, 9, 14]))
     (.seq (.ops [⟨(some 127), none, .move (.t 0)⟩,
       ⟨(some 128), none, .move (.t 14)⟩,
       ⟨(some 129), none, .bin .add 3 (.t 128) (.c (.int .i64 1))⟩,
       ⟨(some 130), none, .move (.t 2)⟩,
       ⟨(some 131), none, .move (.t 3)⟩,
       ⟨(some 132), none, .call (.c (.func (.func 47) #[] #[])) [(.t 127), (.t 129), (.t 130), (.t 131)]⟩] (some [0, 1, 3, 8, 9, 14]))
     (.ops [⟨(some 133), none, .move (.t 14)⟩,
       ⟨(some 2), none, .move (.t 133)⟩] (some [0, 1, 2, 3, 8, 9])))))))))))

abbrev PEnv (id n cap a b lim : Nat) (wb wp : Bool) : Env := [(0, SV id n cap), (1, I a), (2, I b), (3, I lim), (8, .bool wb), (9, .bool wp)]
/-- What a call of the sort leaves. -/
def Sorts (n : Nat) (s : Nat) : Prop := ∀ (F : List Nat) (m : Mem) (id cap a b lim : Nat) (ks : List ByteArray), b - a < s → lim ≤ 100 → OwnK F m id cap n ks → a ≤ b → b ≤ n → Low a b ks →
  Wc 47 [SV id n cap, I a, I b, I lim] m fun v m' => v = tup [] ∧ ∃ ks', OwnK F m' id cap n ks' ∧ Pm a b ks ks' ∧ Srt ltT a b ks' ∧ Fm (· ∈ F) m m'
section
variable {F : List Nat} {m m' : Mem} {id cap n : Nat} {ks : List ByteArray}
theorem tail_spec {a b a' b' pv lim : Nat} {l : List ByteArray} {wb wp : Bool} {rr : Env} {Q N : Post} {B : Nat → Post} (IH : Sorts n (b' - a')) (hlim : lim ≤ 100) (hn : n ≤ 255) (hb : b ≤ n) (h1 : a ≤ a') (h2 : a' + 12 < b') (h3 : b' ≤ b) (o1 : OwnK F m id cap n l) (hM : Mid a b a' b' l) (hl : Low a b l) (hp1 : a' ≤ pv) (hp2 : pv < b')
    (h : ∀ m2 a2 b2 wb2 wp2 l2, b2 - a2 < b' - a' → a ≤ a2 → a2 ≤ b2 → b2 ≤ b → OwnK F m2 id cap n l2 → Pm a b l l2 → Mid a b a2 b2 l2 → Fm (· ∈ F) m m2 → N (PEnv id n cap a2 b2 lim wb2 wp2) m2) :
    Go' Try.prog tabK [.code x47T, .inBlock 1] ((0, SV id n cap) :: (1, I a') :: (2, I b') :: (3, I lim) :: (8, .bool wb) :: (9, .bool wp) :: (10, I (b' - a' : Nat)) :: (11, I pv) :: rr) m Q N B := by
  unfold x47T
  have hll := o1.len
  have hlow := hM.low hl h1 h3
  obtain ⟨p, hp⟩ : ∃ p, l[pv]? = some p := ⟨_, List.getElem?_eq_getElem (by omega)⟩
  -- the partition proper
  have main : Wc 63 [SV id n cap, I a', I b', I pv] m fun r m' => Parted F m m' id cap n a' b' l r := part_spec o1 (by omega) (by omega) hn hp1 hp2
  have hq8 : ∀ m : Mem, binE Try.prog .quo 3 (I ((b' - a' : Nat) : Int)) (I 8) m = some (.val (I (((b' - a') / 8 : Nat) : Int)) m) := fun m => by
    rw [bin_quo (by decide), Int.tdiv_eq_ediv_of_nonneg (by omega), wrap_i64 (by omega) (by omega)]
    rfl
  have rest : ∀ (r : Value) (m3 : Mem), Parted F m m3 id cap n a' b' l r → ∃ (j : Nat) (t : Bool), r = .tuple #[I j, .bool t] ∧ a' ≤ j ∧ j < b' ∧
      IntKind.i64.wrap ((j : Int) - (a' : Int)) = ((j - a' : Nat) : Int) ∧ IntKind.i64.wrap ((b' : Int) - (j : Int)) = ((b' - j : Nat) : Int) ∧ IntKind.i64.wrap ((j : Int) + 1) = ((j + 1 : Nat) : Int) ∧
      (Wc 47 [SV id n cap, I a', I j, I lim] m3 fun v m4 => v = tup [] ∧ ∀ wb2, N (PEnv id n cap (j + 1) b' lim wb2 t) m4) ∧
      (Wc 47 [SV id n cap, I (j + 1 : Nat), I b', I lim] m3 fun v m4 => v = tup [] ∧ ∀ wb2, N (PEnv id n cap a' j lim wb2 t) m4) := fun r m3 hP => by
    obtain ⟨j, t, p, l3, rfl, o3, p3, f3, j1, j2, hp, hA, hB⟩ := hP
    have hM3 := hM.pm p3 h1 (by omega) h3
    have P3 : Pm a b l l3 := p3.mono h1 h3
    have hl3 := hl.pm P3
    have low3 := hM3.low hl3 h1 h3
    refine ⟨j, t, rfl, j1, j2, by rw [wrap_i64 (by omega) (by omega)]; omega, by rw [wrap_i64 (by omega) (by omega)]; omega, by rw [wrap_i64 (by omega) (by omega)]; omega, ?_, ?_⟩
    · refine wpCall_mono ?_ (IH F m3 id cap a' j lim l3 (by omega) hlim o3 j1 (by omega) (fun z k x h0 hz k1 k2 hx => low3 z k x h0 hz k1 (by omega) hx))
      rintro v m4 ⟨rfl, l4, o4, p4, s4, f4⟩
      refine ⟨rfl, fun wb2 => h m4 (j + 1) b' wb2 t l4 (by omega) (by omega) (by omega) h3 o4 (P3.trans (p4.mono h1 (by omega))) ?_ (f3.trans f4)⟩
      have hM4 := hM3.pm (p4.mono (Nat.le_refl _) (by omega : j ≤ b')) h1 (by omega) h3
      refine hM4.left h1 h3 j1 j2 s4 (by rw [p4.same j (.inr (Nat.le_refl _))]; exact hp) (fun k x k1 k2 hx => ?_) (fun k x k1 k2 hx => ?_)
      · obtain ⟨z, z1, z2, z3⟩ := p4.mem j1 k1 k2 hx
        exact hA z x z1 z2 z3
      · rw [p4.same k (.inr k1)] at hx
        exact hB k x k1 k2 hx
    · refine wpCall_mono ?_ (IH F m3 id cap (j + 1) b' lim l3 (by omega) hlim o3 (by omega) (by omega) (fun z k x h0 hz k1 k2 hx => ?_))
      · rintro v m4 ⟨rfl, l4, o4, p4, s4, f4⟩
        refine ⟨rfl, fun wb2 => h m4 a' j wb2 t l4 (by omega) h1 j1 (by omega) o4 (P3.trans (p4.mono (by omega) h3)) ?_ (f3.trans f4)⟩
        have hM4 := hM3.pm (p4.mono (by omega : a' ≤ j + 1) (Nat.le_refl _)) h1 (by omega) h3
        refine hM4.right h1 h3 j1 j2 s4 (by rw [p4.same j (.inl (by omega))]; exact hp) (fun k x k1 k2 hx => ?_) (fun k x k1 k2 hx => ?_)
        · rw [p4.same k (.inl (by omega))] at hx
          exact hA k x k1 k2 hx
        · by_cases hk : k = j
          · subst hk
            rw [p4.same k (.inl (by omega))] at hx
            exact hB k x k1 k2 hx
          · obtain ⟨z, z1, z2, z3⟩ := p4.mem (by omega) (by omega : j + 1 ≤ k) k2 hx
            exact hB z x (by omega) z2 z3
      · rw [show j + 1 - 1 = j by omega, hp] at hz
        cases hz
        exact hB k x (by omega) k2 hx
  have viaPart : ∀ (K : List XItem), True := fun _ => trivial
  simp only [symA, symF, Nat.reduceOr, Nat.reduceAnd, Nat.reduceShiftLeft, Nat.zero_or, symB, wantedX, X.put, X.look, Arg.ev, keepOf, restrict, evs, evO, initEnv, xres, tup, noTup, cls, quiet, Nat.reduceAdd, Nat.reduceEqDiff, ↓reduceIte, reduceCtorEq, goInt, exists_eq_left', eq_self, Int.reduceLT, Int.reduceLE, Int.reduceEq, Int.reduceNeg, Int.reduceAdd, Int.reduceSub, forall_const, ne_eq, undef, Nat.reducePow, Nat.reduceDiv, Nat.reduceMod]
  refine goF_of ?_
  by_cases h0 : 0 < a'
  · have h0' : (0 : Int) < (a' : Int) := by omega
    have wa : IntKind.i64.wrap ((a' : Int) - 1) = ((a' - 1 : Nat) : Int) := by rw [wrap_i64 (by omega) (by omega)]; omega
    obtain ⟨z, hz⟩ : ∃ z, l[a' - 1]? = some z := ⟨_, List.getElem?_eq_getElem (by omega)⟩
    obtain ⟨oo, hoo, hcz, hcp, hz1, hz2⟩ := o1.rd2 hz hp
    by_cases hzp : ltT z p
    · simp only [symA, symF, Nat.reduceOr, Nat.reduceAnd, Nat.reduceShiftLeft, Nat.zero_or, symB, wantedX, X.put, X.look, Arg.ev, keepOf, restrict, evs, evO, initEnv, xres, tup, noTup, cls, quiet, Nat.reduceAdd, Nat.reduceEqDiff, ↓reduceIte, reduceCtorEq, goInt, exists_eq_left', eq_self, Int.reduceLT, Int.reduceLE, Int.reduceEq, Int.reduceNeg, Int.reduceAdd, Int.reduceSub, forall_const, ne_eq, undef, Nat.reducePow, Nat.reduceDiv, Nat.reduceMod, h0', wa, hz1, hz2, hoo, hcz, hcp, goFV3c (less_t hzp)]
      refine goR_wp main ?_
      rintro r m3 hP
      obtain ⟨j, t, rfl, j1, j2, w1, w2, w3, kl, kr⟩ := rest r m3 hP
      simp only [symA, symF, Nat.reduceOr, Nat.reduceAnd, Nat.reduceShiftLeft, Nat.zero_or, symB, wantedX, X.put, X.look, Arg.ev, keepOf, restrict, evs, evO, initEnv, xres, tup, noTup, cls, quiet, Nat.reduceAdd, Nat.reduceEqDiff, ↓reduceIte, reduceCtorEq, goInt, exists_eq_left', eq_self, Int.reduceLT, Int.reduceLE, Int.reduceEq, Int.reduceNeg, Int.reduceAdd, Int.reduceSub, forall_const, ne_eq, undef, Nat.reducePow, Nat.reduceDiv, Nat.reduceMod, w1, w2, hq8]
      by_cases hlr : j - a' < b' - j
      · have hlr' : ((j - a' : Nat) : Int) < ((b' - j : Nat) : Int) := by omega
        simp only [symA, symF, Nat.reduceOr, Nat.reduceAnd, Nat.reduceShiftLeft, Nat.zero_or, symB, wantedX, X.put, X.look, Arg.ev, keepOf, restrict, evs, evO, initEnv, xres, tup, noTup, cls, quiet, Nat.reduceAdd, Nat.reduceEqDiff, ↓reduceIte, reduceCtorEq, goInt, exists_eq_left', eq_self, Int.reduceLT, Int.reduceLE, Int.reduceEq, Int.reduceNeg, Int.reduceAdd, Int.reduceSub, forall_const, ne_eq, undef, Nat.reducePow, Nat.reduceDiv, Nat.reduceMod, hlr']
        refine goR_wp kl ?_
        rintro _ m4 ⟨rfl, hk⟩
        simp only [symA, symF, Nat.reduceOr, Nat.reduceAnd, Nat.reduceShiftLeft, Nat.zero_or, symB, wantedX, X.put, X.look, Arg.ev, keepOf, restrict, evs, evO, initEnv, xres, tup, noTup, cls, quiet, Nat.reduceAdd, Nat.reduceEqDiff, ↓reduceIte, reduceCtorEq, goInt, exists_eq_left', eq_self, Int.reduceLT, Int.reduceLE, Int.reduceEq, Int.reduceNeg, Int.reduceAdd, Int.reduceSub, forall_const, ne_eq, undef, Nat.reducePow, Nat.reduceDiv, Nat.reduceMod, w3]
        exact hk _
      · have hlr' : ¬ ((j - a' : Nat) : Int) < ((b' - j : Nat) : Int) := by omega
        simp only [symA, symF, Nat.reduceOr, Nat.reduceAnd, Nat.reduceShiftLeft, Nat.zero_or, symB, wantedX, X.put, X.look, Arg.ev, keepOf, restrict, evs, evO, initEnv, xres, tup, noTup, cls, quiet, Nat.reduceAdd, Nat.reduceEqDiff, ↓reduceIte, reduceCtorEq, goInt, exists_eq_left', eq_self, Int.reduceLT, Int.reduceLE, Int.reduceEq, Int.reduceNeg, Int.reduceAdd, Int.reduceSub, forall_const, ne_eq, undef, Nat.reducePow, Nat.reduceDiv, Nat.reduceMod, hlr', w3]
        refine goR_wp kr ?_
        rintro _ m4 ⟨rfl, hk⟩
        simp only [symA, symF, Nat.reduceOr, Nat.reduceAnd, Nat.reduceShiftLeft, Nat.zero_or, symB, wantedX, X.put, X.look, Arg.ev, keepOf, restrict, evs, evO, initEnv, xres, tup, noTup, cls, quiet, Nat.reduceAdd, Nat.reduceEqDiff, ↓reduceIte, reduceCtorEq, goInt, exists_eq_left', eq_self, Int.reduceLT, Int.reduceLE, Int.reduceEq, Int.reduceNeg, Int.reduceAdd, Int.reduceSub, forall_const, ne_eq, undef, Nat.reducePow, Nat.reduceDiv, Nat.reduceMod]
        exact hk _
    · simp only [symA, symF, Nat.reduceOr, Nat.reduceAnd, Nat.reduceShiftLeft, Nat.zero_or, symB, wantedX, X.put, X.look, Arg.ev, keepOf, restrict, evs, evO, initEnv, xres, tup, noTup, cls, quiet, Nat.reduceAdd, Nat.reduceEqDiff, ↓reduceIte, reduceCtorEq, goInt, exists_eq_left', eq_self, Int.reduceLT, Int.reduceLE, Int.reduceEq, Int.reduceNeg, Int.reduceAdd, Int.reduceSub, forall_const, ne_eq, undef, Nat.reducePow, Nat.reduceDiv, Nat.reduceMod, h0', wa, hz1, hz2, hoo, hcz, hcp, goFV3c (less_f hzp)]
      refine goR_wp (partEq_spec o1 (by omega) (by omega) hn hp1 hp2 hp) ?_
      rintro _ m3 ⟨i, l3, rfl, o3, p3, f3, i1, i2, hL, hR⟩
      simp only [symA, symF, Nat.reduceOr, Nat.reduceAnd, Nat.reduceShiftLeft, Nat.zero_or, symB, wantedX, X.put, X.look, Arg.ev, keepOf, restrict, evs, evO, initEnv, xres, tup, noTup, cls, quiet, Nat.reduceAdd, Nat.reduceEqDiff, ↓reduceIte, reduceCtorEq, goInt, exists_eq_left', eq_self, Int.reduceLT, Int.reduceLE, Int.reduceEq, Int.reduceNeg, Int.reduceAdd, Int.reduceSub, forall_const, ne_eq, undef, Nat.reducePow, Nat.reduceDiv, Nat.reduceMod]
      have hM3 := hM.pm p3 h1 (by omega) h3
      have P3 : Pm a b l l3 := p3.mono h1 h3
      have hl3 := hl.pm P3
      exact h m3 i b' wb wp l3 (by omega) (by omega) i2 h3 o3 P3 (hM3.eq h1 h3 i1 i2 (hM3.low hl3 h1 h3) h0 (by rw [p3.same (a' - 1) (.inl (by omega))]; exact hz) hzp hL hR) f3
  · have h0' : ¬ (0 : Int) < (a' : Int) := by omega
    simp only [symA, symF, Nat.reduceOr, Nat.reduceAnd, Nat.reduceShiftLeft, Nat.zero_or, symB, wantedX, X.put, X.look, Arg.ev, keepOf, restrict, evs, evO, initEnv, xres, tup, noTup, cls, quiet, Nat.reduceAdd, Nat.reduceEqDiff, ↓reduceIte, reduceCtorEq, goInt, exists_eq_left', eq_self, Int.reduceLT, Int.reduceLE, Int.reduceEq, Int.reduceNeg, Int.reduceAdd, Int.reduceSub, forall_const, ne_eq, undef, Nat.reducePow, Nat.reduceDiv, Nat.reduceMod, h0']
    refine goR_wp main ?_
    rintro r m3 hP
    obtain ⟨j, t, rfl, j1, j2, w1, w2, w3, kl, kr⟩ := rest r m3 hP
    simp only [symA, symF, Nat.reduceOr, Nat.reduceAnd, Nat.reduceShiftLeft, Nat.zero_or, symB, wantedX, X.put, X.look, Arg.ev, keepOf, restrict, evs, evO, initEnv, xres, tup, noTup, cls, quiet, Nat.reduceAdd, Nat.reduceEqDiff, ↓reduceIte, reduceCtorEq, goInt, exists_eq_left', eq_self, Int.reduceLT, Int.reduceLE, Int.reduceEq, Int.reduceNeg, Int.reduceAdd, Int.reduceSub, forall_const, ne_eq, undef, Nat.reducePow, Nat.reduceDiv, Nat.reduceMod, w1, w2, hq8]
    by_cases hlr : j - a' < b' - j
    · have hlr' : ((j - a' : Nat) : Int) < ((b' - j : Nat) : Int) := by omega
      simp only [symA, symF, Nat.reduceOr, Nat.reduceAnd, Nat.reduceShiftLeft, Nat.zero_or, symB, wantedX, X.put, X.look, Arg.ev, keepOf, restrict, evs, evO, initEnv, xres, tup, noTup, cls, quiet, Nat.reduceAdd, Nat.reduceEqDiff, ↓reduceIte, reduceCtorEq, goInt, exists_eq_left', eq_self, Int.reduceLT, Int.reduceLE, Int.reduceEq, Int.reduceNeg, Int.reduceAdd, Int.reduceSub, forall_const, ne_eq, undef, Nat.reducePow, Nat.reduceDiv, Nat.reduceMod, hlr']
      refine goR_wp kl ?_
      rintro _ m4 ⟨rfl, hk⟩
      simp only [symA, symF, Nat.reduceOr, Nat.reduceAnd, Nat.reduceShiftLeft, Nat.zero_or, symB, wantedX, X.put, X.look, Arg.ev, keepOf, restrict, evs, evO, initEnv, xres, tup, noTup, cls, quiet, Nat.reduceAdd, Nat.reduceEqDiff, ↓reduceIte, reduceCtorEq, goInt, exists_eq_left', eq_self, Int.reduceLT, Int.reduceLE, Int.reduceEq, Int.reduceNeg, Int.reduceAdd, Int.reduceSub, forall_const, ne_eq, undef, Nat.reducePow, Nat.reduceDiv, Nat.reduceMod, w3]
      exact hk _
    · have hlr' : ¬ ((j - a' : Nat) : Int) < ((b' - j : Nat) : Int) := by omega
      simp only [symA, symF, Nat.reduceOr, Nat.reduceAnd, Nat.reduceShiftLeft, Nat.zero_or, symB, wantedX, X.put, X.look, Arg.ev, keepOf, restrict, evs, evO, initEnv, xres, tup, noTup, cls, quiet, Nat.reduceAdd, Nat.reduceEqDiff, ↓reduceIte, reduceCtorEq, goInt, exists_eq_left', eq_self, Int.reduceLT, Int.reduceLE, Int.reduceEq, Int.reduceNeg, Int.reduceAdd, Int.reduceSub, forall_const, ne_eq, undef, Nat.reducePow, Nat.reduceDiv, Nat.reduceMod, hlr', w3]
      refine goR_wp kr ?_
      rintro _ m4 ⟨rfl, hk⟩
      simp only [symA, symF, Nat.reduceOr, Nat.reduceAnd, Nat.reduceShiftLeft, Nat.zero_or, symB, wantedX, X.put, X.look, Arg.ev, keepOf, restrict, evs, evO, initEnv, xres, tup, noTup, cls, quiet, Nat.reduceAdd, Nat.reduceEqDiff, ↓reduceIte, reduceCtorEq, goInt, exists_eq_left', eq_self, Int.reduceLT, Int.reduceLE, Int.reduceEq, Int.reduceNeg, Int.reduceAdd, Int.reduceSub, forall_const, ne_eq, undef, Nat.reducePow, Nat.reduceDiv, Nat.reduceMod]
      exact hk _

theorem pdq_spec (hn : n ≤ 255) : ∀ s, Sorts n s := by
  intro s
  induction s with
  | zero => intro F m id cap a b lim ks hs; omega
  | succ s ih =>
    intro F m id cap a b lim ks hs hlm h hab hb hlow
    refine call_go (F := _) rfl rfl fun Q hQ => ?_
    simp only [symA, symF, Nat.reduceOr, Nat.reduceAnd, Nat.reduceShiftLeft, Nat.zero_or, symB, wantedX, X.put, X.look, Arg.ev, keepOf, restrict, evs, evO, initEnv, xres, tup, noTup, cls, quiet, Nat.reduceAdd, Nat.reduceEqDiff, ↓reduceIte, reduceCtorEq, goInt, exists_eq_left', eq_self, Int.reduceLT, Int.reduceLE, Int.reduceEq, Int.reduceNeg, Int.reduceAdd, Int.reduceSub, forall_const, ne_eq, undef, Nat.reducePow, Nat.reduceDiv, Nat.reduceMod]
    refine loop_go (fun k e m' => ∃ (a' b' lim : Nat) (wb wp : Bool) (l : List ByteArray), k = b' - a' ∧ lim ≤ 100 ∧ a ≤ a' ∧ a' ≤ b' ∧ b' ≤ b ∧ OwnK F m' id cap n l ∧ Pm a b ks l ∧ Mid a b a' b' l ∧ Fm (· ∈ F) m m' ∧ e = PEnv id n cap a' b' lim wb wp) (b - a) ⟨a, b, lim, true, true, ks, rfl, hlm, Nat.le_refl _, hab, Nat.le_refl _, h, .refl, .start, .refl, rfl⟩ ?_
    rintro k e m1 N B hN hB ⟨a', b', lim, wb, wp, l, rfl, hlm1, h1, h2, h3, o1, p1, hM, f1, rfl⟩
    have hll := o1.len
    have wl : IntKind.i64.wrap ((b' : Int) - (a' : Int)) = ((b' - a' : Nat) : Int) := by rw [wrap_i64 (by omega) (by omega)]; omega
    have end_ : ∀ l2 m2, OwnK F m2 id cap n l2 → Pm a' b' l l2 → Srt ltT a' b' l2 → Fm (· ∈ F) m1 m2 → ∀ e, Q e m2 := fun l2 m2 o2 p2 s2 f2 e =>
      hQ e m2 [] rfl ⟨rfl, l2, o2, p1.trans (p2.mono h1 h3), (hM.pm p2 h1 h2 h3).done s2 h1 h2 h3, f1.trans f2⟩
    show Go' Try.prog tabK [.code (.block 1
    (.seq (.ops [⟨(some 19), none, .move (.t 2)⟩,
      ⟨(some 20), none, .move (.t 1)⟩,
      ⟨(some 21), none, .bin .sub 3 (.t 19) (.t 20)⟩,
      ⟨(some 10), none, .move (.t 21)⟩] (some [0, 1, 2, 3, 8, 9, 10]))
    (.seq (.seq (.ops [⟨(some 22), none, .move (.t 10)⟩,
      ⟨(some 23), none, .bin .leq 3 (.t 22) (.c (.int .i64 12))⟩] (some [0, 1, 2, 3, 8, 9, 10, 23]))
    (.cond (.t 23)
     (.seq (.ops [⟨(some 24), none, .move (.t 0)⟩,
       ⟨(some 25), none, .move (.t 1)⟩,
       ⟨(some 26), none, .move (.t 2)⟩,
       ⟨(some 27), none, .call (.c (.func (.func 55) #[] #[])) [(.t 24), (.t 25), (.t 26)]⟩] (some []))
     .ret)
     .skip))
    (.seq (.seq (.ops [⟨(some 28), none, .move (.t 3)⟩,
      ⟨(some 29), none, .bin .eql 3 (.t 28) (.c (.int .i64 0))⟩] (some [0, 1, 2, 3, 8, 9, 10, 29]))
    (.cond (.t 29)
     (.seq (.ops [⟨(some 30), none, .move (.t 0)⟩,
       ⟨(some 31), none, .move (.t 1)⟩,
       ⟨(some 32), none, .move (.t 2)⟩,
       ⟨(some 33), none, .call (.c (.func (.func 56) #[] #[])) [(.t 30), (.t 31), (.t 32)]⟩] (some []))
     .ret)
     .skip))
    (.seq (.seq (.ops [⟨(some 34), none, .move (.t 8)⟩,
      ⟨(some 35), none, .un .not (.t 34)⟩] (some [0, 1, 2, 3, 8, 9, 10, 35]))
    (.cond (.t 35)
     (.seq (.ops [⟨(some 36), none, .move (.t 0)⟩,
       ⟨(some 37), none, .move (.t 1)⟩,
       ⟨(some 38), none, .move (.t 2)⟩,
       ⟨(some 39), none, .call (.c (.func (.func 57) #[] #[])) [(.t 36), (.t 37), (.t 38)]⟩] (some [0, 1, 2, 3, 8, 9, 10]))
     (.ops [⟨(some 40), none, .move (.t 3)⟩,
       ⟨(some 41), none, .bin .sub 3 (.t 40) (.c (.int .i64 1))⟩,
       ⟨(some 3), none, .move (.t 41)⟩] (some [0, 1, 2, 3, 8, 9, 10])))
     .skip))
    (.seq (.ops [⟨(some 43), none, .move (.t 0)⟩,
      ⟨(some 44), none, .move (.t 1)⟩,
      ⟨(some 45), none, .move (.t 2)⟩,
      ⟨(some 46), none, .call (.c (.func (.func 58) #[] #[])) [(.t 43), (.t 44), (.t 45)]⟩,
      ⟨(some 42), none, .move (.t 46)⟩,
      ⟨(some 47), none, .extract (.t 42) 0⟩,
      ⟨(some 48), none, .extract (.t 42) 1⟩,
      ⟨(some 11), none, .move (.t 47)⟩,
      ⟨(some 12), none, .move (.t 48)⟩] (some [0, 1, 2, 3, 8, 9, 10, 11, 12]))
    (.seq (.seq (.ops [⟨(some 49), none, .move (.t 12)⟩,
      ⟨(some 50), none, .bin .eql 86 (.t 49) (.c (.int .i64 2))⟩] (some [0, 1, 2, 3, 8, 9, 10, 11, 12, 50]))
    (.cond (.t 50)
     (.seq (.ops [⟨(some 51), none, .move (.t 0)⟩,
       ⟨(some 52), none, .move (.t 1)⟩,
       ⟨(some 53), none, .move (.t 2)⟩,
       ⟨(some 54), none, .call (.c (.func (.func 59) #[] #[])) [(.t 51), (.t 52), (.t 53)]⟩] (some [0, 1, 2, 3, 8, 9, 10, 11]))
     (.seq (.ops [⟨(some 55), none, .move (.t 2)⟩,
       ⟨(some 56), none, .bin .sub 3 (.t 55) (.c (.int .i64 1))⟩,
       ⟨(some 57), none, .move (.t 11)⟩,
       ⟨(some 58), none, .move (.t 1)⟩,
       ⟨(some 59), none, .bin .sub 3 (.t 57) (.t 58)⟩,
       ⟨(some 60), none, .bin .sub 3 (.t 56) (.t 59)⟩,
       ⟨(some 11), none, .move (.t 60)⟩] (some [0, 1, 2, 3, 8, 9, 10, 11]))
     (.ops [⟨(some 12), none, .move (.c (.int .i64 1))⟩] (some [0, 1, 2, 3, 8, 9, 10, 11, 12]))))
     .skip))
    (.seq (.seq (.ops [⟨(some 61), none, .move (.t 8)⟩,
      ⟨(some 62), none, .move (.t 61)⟩,
      ⟨(some 63), (some (62, true)), .move (.t 9)⟩,
      ⟨(some 64), none, .pick (.t 62) (.t 63) (.c (.bool false))⟩,
      ⟨(some 65), none, .move (.t 64)⟩,
      ⟨(some 66), (some (65, true)), .move (.t 12)⟩,
      ⟨(some 67), (some (65, true)), .bin .eql 86 (.t 66) (.c (.int .i64 1))⟩,
      ⟨(some 68), none, .pick (.t 65) (.t 67) (.c (.bool false))⟩] (some [0, 1, 2, 3, 8, 9, 10, 11, 68]))
    (.cond (.t 68)
     (.seq (.ops [⟨(some 69), none, .move (.t 0)⟩,
       ⟨(some 70), none, .move (.t 1)⟩,
       ⟨(some 71), none, .move (.t 2)⟩,
       ⟨(some 72), none, .call (.c (.func (.func 60) #[] #[])) [(.t 69), (.t 70), (.t 71)]⟩] (some [0, 1, 2, 3, 8, 9, 10, 11, 72]))
     (.cond (.t 72)
      .ret
      .skip))
     .skip))
    x47T))))))))] _ _ _ _ _
    by_cases h12 : b' - a' ≤ 12
    · have h12' : ((b' - a' : Nat) : Int) ≤ 12 := by omega
      simp only [symA, symF, Nat.reduceOr, Nat.reduceAnd, Nat.reduceShiftLeft, Nat.zero_or, symB, wantedX, X.put, X.look, Arg.ev, keepOf, restrict, evs, evO, initEnv, xres, tup, noTup, cls, quiet, Nat.reduceAdd, Nat.reduceEqDiff, ↓reduceIte, reduceCtorEq, goInt, exists_eq_left', eq_self, Int.reduceLT, Int.reduceLE, Int.reduceEq, Int.reduceNeg, Int.reduceAdd, Int.reduceSub, forall_const, ne_eq, undef, Nat.reducePow, Nat.reduceDiv, Nat.reduceMod, wl, h12']
      refine goR_wp (ins_spec o1 h2 (by omega) (by omega)) ?_
      rintro _ m2 ⟨rfl, l2, o2, p2, s2, f2⟩
      simp only [symA, symF, Nat.reduceOr, Nat.reduceAnd, Nat.reduceShiftLeft, Nat.zero_or, symB, wantedX, X.put, X.look, Arg.ev, keepOf, restrict, evs, evO, initEnv, xres, tup, noTup, cls, quiet, Nat.reduceAdd, Nat.reduceEqDiff, ↓reduceIte, reduceCtorEq, goInt, exists_eq_left', eq_self, Int.reduceLT, Int.reduceLE, Int.reduceEq, Int.reduceNeg, Int.reduceAdd, Int.reduceSub, forall_const, ne_eq, undef, Nat.reducePow, Nat.reduceDiv, Nat.reduceMod]
      exact end_ l2 m2 o2 p2 s2 f2 _
    · have h12' : ¬ ((b' - a' : Nat) : Int) ≤ 12 := by omega
      by_cases hlim : lim = 0
      · subst hlim
        simp only [symA, symF, Nat.reduceOr, Nat.reduceAnd, Nat.reduceShiftLeft, Nat.zero_or, symB, wantedX, X.put, X.look, Arg.ev, keepOf, restrict, evs, evO, initEnv, xres, tup, noTup, cls, quiet, Nat.reduceAdd, Nat.reduceEqDiff, ↓reduceIte, reduceCtorEq, goInt, exists_eq_left', eq_self, Int.reduceLT, Int.reduceLE, Int.reduceEq, Int.reduceNeg, Int.reduceAdd, Int.reduceSub, forall_const, ne_eq, undef, Nat.reducePow, Nat.reduceDiv, Nat.reduceMod, wl, h12']
        refine goR_wp (heapSort_spec o1 (by omega) (by omega) (by omega)) ?_
        rintro _ m2 ⟨rfl, l2, o2, p2, s2, f2⟩
        simp only [symA, symF, Nat.reduceOr, Nat.reduceAnd, Nat.reduceShiftLeft, Nat.zero_or, symB, wantedX, X.put, X.look, Arg.ev, keepOf, restrict, evs, evO, initEnv, xres, tup, noTup, cls, quiet, Nat.reduceAdd, Nat.reduceEqDiff, ↓reduceIte, reduceCtorEq, goInt, exists_eq_left', eq_self, Int.reduceLT, Int.reduceLE, Int.reduceEq, Int.reduceNeg, Int.reduceAdd, Int.reduceSub, forall_const, ne_eq, undef, Nat.reducePow, Nat.reduceDiv, Nat.reduceMod]
        exact end_ l2 m2 o2 p2 s2 f2 _
      · have hlim' : ¬ (lim : Int) = 0 := by omega
        -- from the pivot on
        have go2 : ∀ (rr : Env) (l2 : List ByteArray) (m2 : Mem) (lim2 pv : Nat) (wp2 wb2 : Bool), lim2 ≤ 100 → OwnK F m2 id cap n l2 → Pm a' b' l l2 → Fm (· ∈ F) m1 m2 → a' ≤ pv → pv < b' →
            Go' Try.prog tabK [.code x47T, .inBlock 1] ((0, SV id n cap) :: (1, I a') :: (2, I b') :: (3, I lim2) :: (8, .bool wb2) :: (9, .bool wp2) :: (10, I (b' - a' : Nat)) :: (11, I pv) :: rr) m2 Q N B := fun rr l2 m2 lim2 pv wp2 wb2 hlm2 o2 p2 f2 k1 k2 => by
          have P2 : Pm a b ks l2 := p1.trans (p2.mono h1 h3)
          refine tail_spec (fun F m id cap a b lim ks hh => ih F m id cap a b lim ks (by omega)) hlm2 hn hb h1 (by omega) h3 o2 (hM.pm p2 h1 h2 h3) (hlow.pm P2) k1 k2 ?_
          intro m3 a3 b3 wb3 wp3 l3 q1 q2 q3 q4 q5 q6 q7 q8
          exact hN _ _ (b3 - a3) q1 ⟨a3, b3, lim2, wb3, wp3, l3, rfl, hlm2, q2, q3, q4, q5, P2.trans q6, q7, (f1.trans f2).trans q8, rfl⟩
        have wr : ∀ pv : Nat, a' ≤ pv → pv < b' → IntKind.i64.wrap ((b' : Int) - 1) = ((b' - 1 : Nat) : Int) ∧ IntKind.i64.wrap ((pv : Int) - (a' : Int)) = ((pv - a' : Nat) : Int) ∧ IntKind.i64.wrap (((b' - 1 : Nat) : Int) - ((pv - a' : Nat) : Int)) = ((b' - 1 - (pv - a') : Nat) : Int) := fun pv k1 k2 => by
          refine ⟨?_, ?_, ?_⟩ <;> rw [wrap_i64 (by omega) (by omega)] <;> omega
        cases wb with
        | false =>
          have wlim : IntKind.i64.wrap ((lim : Int) - 1) = ((lim - 1 : Nat) : Int) := by rw [wrap_i64 (by omega) (by omega)]; omega
          simp only [symA, symF, Nat.reduceOr, Nat.reduceAnd, Nat.reduceShiftLeft, Nat.zero_or, symB, wantedX, X.put, X.look, Arg.ev, keepOf, restrict, evs, evO, initEnv, xres, tup, noTup, cls, quiet, Nat.reduceAdd, Nat.reduceEqDiff, ↓reduceIte, reduceCtorEq, goInt, exists_eq_left', eq_self, Int.reduceLT, Int.reduceLE, Int.reduceEq, Int.reduceNeg, Int.reduceAdd, Int.reduceSub, forall_const, ne_eq, undef, Nat.reducePow, Nat.reduceDiv, Nat.reduceMod, wl, h12', hlim']
          refine goR_wp (break_spec o1 (by omega) (by omega) hn) ?_
          rintro _ m2 ⟨rfl, l2, o2, p2, f2⟩
          simp only [symA, symF, Nat.reduceOr, Nat.reduceAnd, Nat.reduceShiftLeft, Nat.zero_or, symB, wantedX, X.put, X.look, Arg.ev, keepOf, restrict, evs, evO, initEnv, xres, tup, noTup, cls, quiet, Nat.reduceAdd, Nat.reduceEqDiff, ↓reduceIte, reduceCtorEq, goInt, exists_eq_left', eq_self, Int.reduceLT, Int.reduceLE, Int.reduceEq, Int.reduceNeg, Int.reduceAdd, Int.reduceSub, forall_const, ne_eq, undef, Nat.reducePow, Nat.reduceDiv, Nat.reduceMod, wlim]
          refine goR_wp (pivot_spec o2 (by omega) (by omega) hn) ?_
          rintro _ m3 ⟨pv, t, rfl, k1, k2, f3⟩
          have o3 := o2.fr f3 (fun _ _ h => h)
          have f23 := f2.trans (f3.mono (S' := (· ∈ F)) fun _ _ h => h.elim)
          by_cases t2 : t = 2
          · subst t2
            obtain ⟨w1, w2, w3⟩ := wr pv k1 k2
            simp only [symA, symF, Nat.reduceOr, Nat.reduceAnd, Nat.reduceShiftLeft, Nat.zero_or, symB, wantedX, X.put, X.look, Arg.ev, keepOf, restrict, evs, evO, initEnv, xres, tup, noTup, cls, quiet, Nat.reduceAdd, Nat.reduceEqDiff, ↓reduceIte, reduceCtorEq, goInt, exists_eq_left', eq_self, Int.reduceLT, Int.reduceLE, Int.reduceEq, Int.reduceNeg, Int.reduceAdd, Int.reduceSub, forall_const, ne_eq, undef, Nat.reducePow, Nat.reduceDiv, Nat.reduceMod]
            refine goR_wp (reverse_spec o3 (by omega) (by omega) hn) ?_
            rintro _ m4 ⟨rfl, l4, o4, p4, f4⟩
            simp only [symA, symF, Nat.reduceOr, Nat.reduceAnd, Nat.reduceShiftLeft, Nat.zero_or, symB, wantedX, X.put, X.look, Arg.ev, keepOf, restrict, evs, evO, initEnv, xres, tup, noTup, cls, quiet, Nat.reduceAdd, Nat.reduceEqDiff, ↓reduceIte, reduceCtorEq, goInt, exists_eq_left', eq_self, Int.reduceLT, Int.reduceLE, Int.reduceEq, Int.reduceNeg, Int.reduceAdd, Int.reduceSub, forall_const, ne_eq, undef, Nat.reducePow, Nat.reduceDiv, Nat.reduceMod, w1, w2, w3]
            exact go2 _ l4 m4 (lim - 1) (b' - 1 - (pv - a')) wp false (by omega) o4 (p2.trans p4) (f23.trans f4) (by omega) (by omega)
          · simp only [symA, symF, Nat.reduceOr, Nat.reduceAnd, Nat.reduceShiftLeft, Nat.zero_or, symB, wantedX, X.put, X.look, Arg.ev, keepOf, restrict, evs, evO, initEnv, xres, tup, noTup, cls, quiet, Nat.reduceAdd, Nat.reduceEqDiff, ↓reduceIte, reduceCtorEq, goInt, exists_eq_left', eq_self, Int.reduceLT, Int.reduceLE, Int.reduceEq, Int.reduceNeg, Int.reduceAdd, Int.reduceSub, forall_const, ne_eq, undef, Nat.reducePow, Nat.reduceDiv, Nat.reduceMod, t2]
            exact go2 _ l2 m3 (lim - 1) pv wp false (by omega) o3 p2 f23 k1 k2
        | true =>
          simp only [symA, symF, Nat.reduceOr, Nat.reduceAnd, Nat.reduceShiftLeft, Nat.zero_or, symB, wantedX, X.put, X.look, Arg.ev, keepOf, restrict, evs, evO, initEnv, xres, tup, noTup, cls, quiet, Nat.reduceAdd, Nat.reduceEqDiff, ↓reduceIte, reduceCtorEq, goInt, exists_eq_left', eq_self, Int.reduceLT, Int.reduceLE, Int.reduceEq, Int.reduceNeg, Int.reduceAdd, Int.reduceSub, forall_const, ne_eq, undef, Nat.reducePow, Nat.reduceDiv, Nat.reduceMod, wl, h12', hlim']
          refine goR_wp (pivot_spec o1 (by omega) (by omega) hn) ?_
          rintro _ m3 ⟨pv, t, rfl, k1, k2, f3⟩
          have o3 := o1.fr f3 (fun _ _ h => h)
          have f23 := f3.mono (S' := (· ∈ F)) fun _ _ h => h.elim
          by_cases t2 : t = 2
          · subst t2
            obtain ⟨w1, w2, w3⟩ := wr pv k1 k2
            simp only [symA, symF, Nat.reduceOr, Nat.reduceAnd, Nat.reduceShiftLeft, Nat.zero_or, symB, wantedX, X.put, X.look, Arg.ev, keepOf, restrict, evs, evO, initEnv, xres, tup, noTup, cls, quiet, Nat.reduceAdd, Nat.reduceEqDiff, ↓reduceIte, reduceCtorEq, goInt, exists_eq_left', eq_self, Int.reduceLT, Int.reduceLE, Int.reduceEq, Int.reduceNeg, Int.reduceAdd, Int.reduceSub, forall_const, ne_eq, undef, Nat.reducePow, Nat.reduceDiv, Nat.reduceMod]
            refine goR_wp (reverse_spec o3 (by omega) (by omega) hn) ?_
            rintro _ m4 ⟨rfl, l4, o4, p4, f4⟩
            cases wp with
            | false =>
              simp only [symA, symF, Nat.reduceOr, Nat.reduceAnd, Nat.reduceShiftLeft, Nat.zero_or, symB, wantedX, X.put, X.look, Arg.ev, keepOf, restrict, evs, evO, initEnv, xres, tup, noTup, cls, quiet, Nat.reduceAdd, Nat.reduceEqDiff, ↓reduceIte, reduceCtorEq, goInt, exists_eq_left', eq_self, Int.reduceLT, Int.reduceLE, Int.reduceEq, Int.reduceNeg, Int.reduceAdd, Int.reduceSub, forall_const, ne_eq, undef, Nat.reducePow, Nat.reduceDiv, Nat.reduceMod, w1, w2, w3]
              exact go2 _ l4 m4 lim (b' - 1 - (pv - a')) false true hlm1 o4 p4 (f23.trans f4) (by omega) (by omega)
            | true =>
              simp only [symA, symF, Nat.reduceOr, Nat.reduceAnd, Nat.reduceShiftLeft, Nat.zero_or, symB, wantedX, X.put, X.look, Arg.ev, keepOf, restrict, evs, evO, initEnv, xres, tup, noTup, cls, quiet, Nat.reduceAdd, Nat.reduceEqDiff, ↓reduceIte, reduceCtorEq, goInt, exists_eq_left', eq_self, Int.reduceLT, Int.reduceLE, Int.reduceEq, Int.reduceNeg, Int.reduceAdd, Int.reduceSub, forall_const, ne_eq, undef, Nat.reducePow, Nat.reduceDiv, Nat.reduceMod, w1, w2, w3]
              refine goR_wp (partial_spec o4 (by omega) (by omega) hn ((hM.pm p4 h1 h2 h3).low (hlow.pm (p1.trans (p4.mono h1 h3))) h1 h3)) ?_
              rintro _ m5 ⟨u, l5, rfl, o5, p5, f5, s5⟩
              cases u with
              | true =>
                simp only [symA, symF, Nat.reduceOr, Nat.reduceAnd, Nat.reduceShiftLeft, Nat.zero_or, symB, wantedX, X.put, X.look, Arg.ev, keepOf, restrict, evs, evO, initEnv, xres, tup, noTup, cls, quiet, Nat.reduceAdd, Nat.reduceEqDiff, ↓reduceIte, reduceCtorEq, goInt, exists_eq_left', eq_self, Int.reduceLT, Int.reduceLE, Int.reduceEq, Int.reduceNeg, Int.reduceAdd, Int.reduceSub, forall_const, ne_eq, undef, Nat.reducePow, Nat.reduceDiv, Nat.reduceMod]
                exact end_ l5 m5 o5 (p4.trans p5) (s5 rfl) ((f23.trans f4).trans f5) _
              | false =>
                simp only [symA, symF, Nat.reduceOr, Nat.reduceAnd, Nat.reduceShiftLeft, Nat.zero_or, symB, wantedX, X.put, X.look, Arg.ev, keepOf, restrict, evs, evO, initEnv, xres, tup, noTup, cls, quiet, Nat.reduceAdd, Nat.reduceEqDiff, ↓reduceIte, reduceCtorEq, goInt, exists_eq_left', eq_self, Int.reduceLT, Int.reduceLE, Int.reduceEq, Int.reduceNeg, Int.reduceAdd, Int.reduceSub, forall_const, ne_eq, undef, Nat.reducePow, Nat.reduceDiv, Nat.reduceMod]
                exact go2 _ l5 m5 lim (b' - 1 - (pv - a')) true true hlm1 o5 (p4.trans p5) ((f23.trans f4).trans f5) (by omega) (by omega)
          · cases wp with
            | false =>
              simp only [symA, symF, Nat.reduceOr, Nat.reduceAnd, Nat.reduceShiftLeft, Nat.zero_or, symB, wantedX, X.put, X.look, Arg.ev, keepOf, restrict, evs, evO, initEnv, xres, tup, noTup, cls, quiet, Nat.reduceAdd, Nat.reduceEqDiff, ↓reduceIte, reduceCtorEq, goInt, exists_eq_left', eq_self, Int.reduceLT, Int.reduceLE, Int.reduceEq, Int.reduceNeg, Int.reduceAdd, Int.reduceSub, forall_const, ne_eq, undef, Nat.reducePow, Nat.reduceDiv, Nat.reduceMod, t2]
              exact go2 _ l m3 lim pv false true hlm1 o3 .refl f23 k1 k2
            | true =>
              by_cases t1 : t = 1
              · subst t1
                simp only [symA, symF, Nat.reduceOr, Nat.reduceAnd, Nat.reduceShiftLeft, Nat.zero_or, symB, wantedX, X.put, X.look, Arg.ev, keepOf, restrict, evs, evO, initEnv, xres, tup, noTup, cls, quiet, Nat.reduceAdd, Nat.reduceEqDiff, ↓reduceIte, reduceCtorEq, goInt, exists_eq_left', eq_self, Int.reduceLT, Int.reduceLE, Int.reduceEq, Int.reduceNeg, Int.reduceAdd, Int.reduceSub, forall_const, ne_eq, undef, Nat.reducePow, Nat.reduceDiv, Nat.reduceMod]
                refine goR_wp (partial_spec o3 (by omega) (by omega) hn (hM.low (hlow.pm p1) h1 h3)) ?_
                rintro _ m5 ⟨u, l5, rfl, o5, p5, f5, s5⟩
                cases u with
                | true =>
                  simp only [symA, symF, Nat.reduceOr, Nat.reduceAnd, Nat.reduceShiftLeft, Nat.zero_or, symB, wantedX, X.put, X.look, Arg.ev, keepOf, restrict, evs, evO, initEnv, xres, tup, noTup, cls, quiet, Nat.reduceAdd, Nat.reduceEqDiff, ↓reduceIte, reduceCtorEq, goInt, exists_eq_left', eq_self, Int.reduceLT, Int.reduceLE, Int.reduceEq, Int.reduceNeg, Int.reduceAdd, Int.reduceSub, forall_const, ne_eq, undef, Nat.reducePow, Nat.reduceDiv, Nat.reduceMod]
                  exact end_ l5 m5 o5 p5 (s5 rfl) (f23.trans f5) _
                | false =>
                  simp only [symA, symF, Nat.reduceOr, Nat.reduceAnd, Nat.reduceShiftLeft, Nat.zero_or, symB, wantedX, X.put, X.look, Arg.ev, keepOf, restrict, evs, evO, initEnv, xres, tup, noTup, cls, quiet, Nat.reduceAdd, Nat.reduceEqDiff, ↓reduceIte, reduceCtorEq, goInt, exists_eq_left', eq_self, Int.reduceLT, Int.reduceLE, Int.reduceEq, Int.reduceNeg, Int.reduceAdd, Int.reduceSub, forall_const, ne_eq, undef, Nat.reducePow, Nat.reduceDiv, Nat.reduceMod]
                  exact go2 _ l5 m5 lim pv true true hlm1 o5 p5 (f23.trans f5) k1 k2
              · simp only [symA, symF, Nat.reduceOr, Nat.reduceAnd, Nat.reduceShiftLeft, Nat.zero_or, symB, wantedX, X.put, X.look, Arg.ev, keepOf, restrict, evs, evO, initEnv, xres, tup, noTup, cls, quiet, Nat.reduceAdd, Nat.reduceEqDiff, ↓reduceIte, reduceCtorEq, goInt, exists_eq_left', eq_self, Int.reduceLT, Int.reduceLE, Int.reduceEq, Int.reduceNeg, Int.reduceAdd, Int.reduceSub, forall_const, ne_eq, undef, Nat.reducePow, Nat.reduceDiv, Nat.reduceMod, t2, t1]
                exact go2 _ l m3 lim pv true true hlm1 o3 .refl f23 k1 k2
theorem sort_spec (h : OwnK F m id cap n ks) (hn : n ≤ 255) : Wc 38 [SV id n cap] m fun v m' => v = tup [] ∧ ∃ ks', OwnK F m' id cap n ks' ∧ ks'.Perm ks ∧ Srt ltT 0 n ks' ∧ Fm (· ∈ F) m m' := by
  refine call_go (F := _) rfl rfl fun Q hQ => ?_
  have c1 : convE Try.prog 3 78 m (I (n : Int)) = some (.val (.int .u64 (n : Int)) m) := conv_ui (by kernel_rfl) (by omega)
  simp only [symA, go_opsd, symB, wantedX, X.put, X.look, Arg.ev, keepOf, restrict, evs, evO, initEnv, xres, tup, noTup, cls, quiet, Nat.reduceAdd, Nat.reduceEqDiff, ↓reduceIte, reduceCtorEq, goInt, exists_eq_left', eq_self, Int.reduceLT, Int.reduceLE, Int.reduceEq, Int.reduceNeg, Int.reduceAdd, Int.reduceSub, forall_const, ne_eq, undef, Nat.reducePow, Nat.reduceDiv, Nat.reduceMod, c1, goR_call (len_bits (L := n) (by omega))]
  have hb : bl n ≤ 100 := by
    by_cases h0 : n = 0
    · subst h0; decide
    · have := (bl_at (L := n) (by omega) (by omega)).1; omega
  refine goR_wp (pdq_spec hn (n + 1) F m id cap 0 n (bl n) ks (by omega) hb h (by omega) (Nat.le_refl _) (fun z k x h0 => by omega)) ?_
  rintro _ m' ⟨rfl, ks', o', p', s', f'⟩
  simp only [symA, go_opsd, symB, wantedX, X.put, X.look, Arg.ev, keepOf, restrict, evs, evO, initEnv, xres, tup, noTup, cls, quiet, Nat.reduceAdd, Nat.reduceEqDiff, ↓reduceIte, reduceCtorEq, goInt, exists_eq_left', eq_self, Int.reduceLT, Int.reduceLE, Int.reduceEq, Int.reduceNeg, Int.reduceAdd, Int.reduceSub, forall_const, ne_eq, undef, Nat.reducePow, Nat.reduceDiv, Nat.reduceMod]
  exact hQ _ _ _ rfl ⟨rfl, ks', o', p'.perm, s', f'⟩
end
end Go.Proofs.Ytlldfkapaeidoaa
