/-
  Own work. The loops of FlowAll: what was found is compared; who is trusted.
-/
import Derived.Test.YtfjeccaffenngaaH9
namespace Go.Proofs.Ytfjeccaffenngaa
open Go X
set_option maxRecDepth 100000
set_option linter.unusedVariables false
set_option linter.unusedSimpArgs false

theorem leak_prefix {W : Nat → Nat → Bool} {rooms : List (List Int)} {n i j : Nat} (hi : i < n) (hj : j < n) : ∃ rest, leakTo W rooms n n = (leakTo W rooms n i ++ leakRow W rooms i (j + 1)) ++ rest := by
  have h1 : ∀ d, ∃ rest, leakRow W rooms i (j + 1 + d) = leakRow W rooms i (j + 1) ++ rest := by
    intro d
    induction d with
    | zero => exact ⟨[], by simp⟩
    | succ d ih =>
      obtain ⟨r, hr⟩ := ih
      exact ⟨r ++ (bif leakB W rooms i (j + 1 + d) then [(i, j + 1 + d)] else []), by rw [show j + 1 + (d + 1) = (j + 1 + d) + 1 by omega, leakRow_succ, hr, List.append_assoc]⟩
  have h2 : ∀ d, ∃ rest, leakTo W rooms n (i + 1 + d) = leakTo W rooms n (i + 1) ++ rest := by
    intro d
    induction d with
    | zero => exact ⟨[], by simp⟩
    | succ d ih =>
      obtain ⟨r, hr⟩ := ih
      exact ⟨r ++ leakRow W rooms (i + 1 + d) n, by rw [show i + 1 + (d + 1) = (i + 1 + d) + 1 by omega, leakTo_succ, hr, List.append_assoc]⟩
  obtain ⟨r1, h1⟩ := h1 (n - (j + 1))
  obtain ⟨r2, h2⟩ := h2 (n - (i + 1))
  rw [show j + 1 + (n - (j + 1)) = n by omega] at h1
  rw [show i + 1 + (n - (i + 1)) = n by omega] at h2
  exact ⟨r1 ++ r2, by rw [h2, leakTo_succ, h1]; simp [List.append_assoc]⟩

theorem neq61 {m : Mem} {a b : Nat} : binE Try.prog .neq 61 (.agg ⟨rowP (a, b)⟩) (.agg ⟨rowP (a, b)⟩) m = some (.val (.bool false) m) := by
  have := bin_arr2 (P := Try.prog) (t := 61) (e := 3) (m := m) (ne := true) (a := (a : Int)) (b := (b : Int)) (a' := (a : Int)) (b' := (b : Int)) Try.underlying61 Try.underlying3 (by kernel_rfl) (by kernel_rfl)
  simpa using this

def x7L5 : XCode := (.seq (.seq (.ops [⟨(some 202), none, .move (.t 25)⟩,
        ⟨(some 203), none, .move (.t 2)⟩,
        ⟨(some 204), none, .len (.t 203)⟩,
        ⟨(some 205), none, .bin .lss 3 (.t 202) (.t 204)⟩] (some [0, 2, 3, 9, 10, 14, 16, 18, 19, 20, 25, 205]))
      (.cond (.t 205)
       .skip
       (.exit 10)))
      (.seq (.block 11
       (.seq (.seq (.opsr [⟨(some 208), none, .move (.t 14)⟩,
         ⟨(some 209), none, .move (.t 19)⟩,
         ⟨(some 210), none, .indexAddr 1 (.t 208) (.t 209)⟩,
         ⟨(some 211), none, .load false 1 (.t 210)⟩,
         ⟨(some 212), none, .move (.t 25)⟩,
         ⟨(some 213), none, .indexAddr 1 (.t 211) (.t 212)⟩,
         ⟨(some 214), none, .load false 1 (.t 213)⟩,
         ⟨(some 215), none, .move (.t 20)⟩,
         ⟨(some 216), none, .move (.t 25)⟩,
         ⟨(some 217), none, .indexAddr 1 (.t 215) (.t 216)⟩,
         ⟨(some 218), none, .load false 1 (.t 217)⟩,
         ⟨(some 219), none, .bin .neq 4 (.t 214) (.t 218)⟩] (some [0, 2, 3, 9, 10, 14, 16, 18, 19, 20, 25, 219]))
       (.cond (.t 219)
        (.seq (.ops [⟨(some 8), none, .move (.c (.bool false))⟩] (some [8]))
        .ret)
        .skip))
       (.seq (.opsd [(0, 0, ⟨(some 220), none, .move (.t 20)⟩),
         (1, 0, ⟨(some 221), none, .move (.t 25)⟩),
         (2, 3, ⟨(some 222), none, .indexAddr 1 (.t 220) (.t 221)⟩),
         (3, 7, ⟨(some 223), none, .load false 1 (.t 222)⟩),
         (4, 15, ⟨(some 224), none, .move (.t 223)⟩),
         (5, 31, ⟨(some 225), (some (224, true)), .move (.t 2)⟩),
         (6, 31, ⟨(some 226), (some (224, true)), .move (.t 19)⟩),
         (7, 127, ⟨(some 227), (some (224, true)), .indexAddr 1 (.t 225) (.t 226)⟩),
         (8, 255, ⟨(some 228), (some (224, true)), .load false 1 (.t 227)⟩),
         (9, 31, ⟨(some 229), (some (224, true)), .move (.t 2)⟩),
         (10, 31, ⟨(some 230), (some (224, true)), .move (.t 25)⟩),
         (11, 1567, ⟨(some 231), (some (224, true)), .indexAddr 1 (.t 229) (.t 230)⟩),
         (12, 3615, ⟨(some 232), (some (224, true)), .load false 1 (.t 231)⟩),
         (13, 8191, ⟨(some 233), (some (224, true)), .call (.c (.func (.func 24) #[] #[])) [(.t 228), (.t 232)]⟩),
         (14, 16383, ⟨(some 234), (some (224, true)), .un .not (.t 233)⟩),
         (15, 32767, ⟨(some 235), none, .pick (.t 224) (.t 234) (.c (.bool false))⟩)] (some [0, 2, 3, 9, 10, 14, 16, 18, 19, 20, 25, 235]))
       (.cond (.t 235)
        (.seq (.seq (.ops [⟨(some 236), none, .move (.t 18)⟩,
          ⟨(some 237), none, .move (.t 16)⟩,
          ⟨(some 238), none, .len (.t 237)⟩,
          ⟨(some 239), none, .bin .geq 3 (.t 236) (.t 238)⟩,
          ⟨(some 240), none, .move (.t 239)⟩,
          ⟨(some 241), (some (240, false)), .move (.t 16)⟩,
          ⟨(some 242), (some (240, false)), .move (.t 18)⟩,
          ⟨(some 243), (some (240, false)), .indexAddr 2 (.t 241) (.t 242)⟩,
          ⟨(some 244), (some (240, false)), .load true 2 (.t 243)⟩,
          ⟨(some 245), (some (240, false)), .move (.t 19)⟩,
          ⟨(some 246), (some (240, false)), .move (.t 25)⟩,
          ⟨(some 247), (some (240, false)), .buildArr [(.int .i64 0), (.int .i64 0)] 1 [(0, (.t 245)), (1, (.t 246))]⟩,
          ⟨(some 248), (some (240, false)), .bin .neq 61 (.t 244) (.t 247)⟩,
          ⟨(some 249), none, .pick (.t 240) (.c (.bool true)) (.t 248)⟩] (some [0, 2, 3, 9, 10, 14, 16, 18, 19, 20, 25, 249]))
        (.cond (.t 249)
         (.seq (.ops [⟨(some 8), none, .move (.c (.bool false))⟩] (some [8]))
         .ret)
         .skip))
        (.ops [⟨(some 250), none, .move (.t 18)⟩,
          ⟨(some 251), none, .bin .add 3 (.t 250) (.c (.int .i64 1))⟩,
          ⟨(some 18), none, .move (.t 251)⟩] (some [0, 2, 3, 9, 10, 14, 16, 18, 19, 20, 25])))
        .skip))))
      (.ops [⟨(some 206), none, .move (.t 25)⟩,
        ⟨(some 207), none, .bin .add 3 (.t 206) (.c (.int .i64 1))⟩,
        ⟨(some 25), none, .move (.t 207)⟩] (some [0, 2, 3, 9, 10, 14, 16, 18, 19, 20, 25]))))
def x7L1 : XCode := (.seq (.seq (.ops [⟨(some 135), none, .move (.t 19)⟩,
     ⟨(some 136), none, .move (.t 2)⟩,
     ⟨(some 137), none, .len (.t 136)⟩,
     ⟨(some 138), none, .bin .lss 3 (.t 135) (.t 137)⟩] (some [0, 2, 3, 9, 10, 14, 16, 18, 19, 138]))
   (.cond (.t 138)
    .skip
    (.exit 2)))
   (.seq (.block 3
    (.seq (.ops [⟨(some 141), none, .move (.t 2)⟩,
      ⟨(some 142), none, .len (.t 141)⟩,
      ⟨(some 143), none, .makeSlice [(.bool false)] 1 (.t 142) (.t 142)⟩,
      ⟨(some 20), none, .move (.t 143)⟩] (some [0, 2, 3, 9, 10, 14, 16, 18, 19, 20]))
    (.seq (.ops [⟨(some 144), none, .move (.t 20)⟩,
      ⟨(some 145), none, .move (.t 19)⟩,
      ⟨(some 146), none, .indexAddr 1 (.t 144) (.t 145)⟩,
      ⟨none, none, .store 1 (.t 146) (.c (.bool true))⟩] (some [0, 2, 3, 9, 10, 14, 16, 18, 19, 20]))
    (.seq (.ops [⟨(some 147), none, .move (.t 19)⟩,
      ⟨(some 148), none, .buildSlice [(.int .i64 0)] 1 1 [(0, (.t 147))]⟩,
      ⟨(some 21), none, .move (.t 148)⟩] (some [0, 2, 3, 9, 10, 14, 16, 18, 19, 20, 21]))
    (.seq (.seq (.ops [⟨(some 22), none, .move (.c (.int .i64 0))⟩] (some [0, 2, 3, 9, 10, 14, 16, 18, 19, 20, 21, 22]))
    (.block 4
     (.loop
      (.seq (.seq (.ops [⟨(some 149), none, .move (.t 22)⟩,
        ⟨(some 150), none, .move (.t 21)⟩,
        ⟨(some 151), none, .len (.t 150)⟩,
        ⟨(some 152), none, .bin .lss 3 (.t 149) (.t 151)⟩] (some [0, 2, 3, 9, 10, 14, 16, 18, 19, 20, 21, 22, 152]))
      (.cond (.t 152)
       .skip
       (.exit 4)))
      (.seq (.block 5
       (.seq (.ops [⟨(some 23), none, .move (.c (.int .i64 0))⟩] (some [0, 2, 3, 9, 10, 14, 16, 18, 19, 20, 21, 22, 23]))
       (.block 6
        (.loop
         (.seq (.seq (.ops [⟨(some 155), none, .move (.t 23)⟩,
           ⟨(some 156), none, .move (.t 2)⟩,
           ⟨(some 157), none, .len (.t 156)⟩,
           ⟨(some 158), none, .bin .lss 3 (.t 155) (.t 157)⟩] (some [0, 2, 3, 9, 10, 14, 16, 18, 19, 20, 21, 22, 23, 158]))
         (.cond (.t 158)
          .skip
          (.exit 6)))
         (.seq (.block 7
          (.seq (.ops [⟨(some 24), none, .move (.c (.int .i64 0))⟩] (some [0, 2, 3, 9, 10, 14, 16, 18, 19, 20, 21, 22, 23, 24]))
          (.block 8
           (.loop
            (.seq (.seq (.ops [⟨(some 161), none, .move (.t 24)⟩,
              ⟨(some 162), none, .move (.t 0)⟩,
              ⟨(some 163), none, .bin .lss 3 (.t 161) (.t 162)⟩,
              ⟨(some 164), none, .move (.t 163)⟩,
              ⟨(some 165), (some (164, true)), .move (.t 20)⟩,
              ⟨(some 166), (some (164, true)), .move (.t 23)⟩,
              ⟨(some 167), (some (164, true)), .indexAddr 1 (.t 165) (.t 166)⟩,
              ⟨(some 168), (some (164, true)), .load false 1 (.t 167)⟩,
              ⟨(some 169), (some (164, true)), .un .not (.t 168)⟩,
              ⟨(some 170), none, .pick (.t 164) (.t 169) (.c (.bool false))⟩] (some [0, 2, 3, 9, 10, 14, 16, 18, 19, 20, 21, 22, 23, 24, 170]))
            (.cond (.t 170)
             .skip
             (.exit 8)))
            (.seq (.block 9
             (.seq (.opsd [(0, 0, ⟨(some 173), none, .move (.t 10)⟩),
               (1, 0, ⟨(some 174), none, .move (.t 24)⟩),
               (2, 0, ⟨(some 175), none, .move (.t 2)⟩),
               (3, 0, ⟨(some 176), none, .move (.t 21)⟩),
               (4, 0, ⟨(some 177), none, .move (.t 22)⟩),
               (5, 24, ⟨(some 178), none, .indexAddr 1 (.t 176) (.t 177)⟩),
               (6, 56, ⟨(some 179), none, .load false 1 (.t 178)⟩),
               (7, 124, ⟨(some 180), none, .indexAddr 1 (.t 175) (.t 179)⟩),
               (8, 252, ⟨(some 181), none, .load false 1 (.t 180)⟩),
               (9, 0, ⟨(some 182), none, .move (.t 2)⟩),
               (10, 0, ⟨(some 183), none, .move (.t 23)⟩),
               (11, 1536, ⟨(some 184), none, .indexAddr 1 (.t 182) (.t 183)⟩),
               (12, 3584, ⟨(some 185), none, .load false 1 (.t 184)⟩),
               (13, 8191, ⟨(some 186), none, .call (.c (.func (.func 17) #[] #[])) [(.t 173), (.t 174), (.t 181), (.t 185)]⟩)] (some [0, 2, 3, 9, 10, 14, 16, 18, 19, 20, 21, 22, 23, 24, 186]))
             (.cond (.t 186)
              (.seq (.ops [⟨(some 187), none, .move (.t 20)⟩,
                ⟨(some 188), none, .move (.t 23)⟩,
                ⟨(some 189), none, .indexAddr 1 (.t 187) (.t 188)⟩,
                ⟨none, none, .store 1 (.t 189) (.c (.bool true))⟩] (some [0, 2, 3, 9, 10, 14, 16, 18, 19, 20, 21, 22, 23, 24]))
              (.ops [⟨(some 190), none, .move (.t 21)⟩,
                ⟨(some 191), none, .move (.t 23)⟩,
                ⟨(some 192), none, .buildSlice [(.int .i64 0)] 1 1 [(0, (.t 191))]⟩,
                ⟨(some 193), none, .append 1 8 [(.int .i64 0)] (.t 190) (.t 192)⟩,
                ⟨(some 21), none, .move (.t 193)⟩] (some [0, 2, 3, 9, 10, 14, 16, 18, 19, 20, 21, 22, 23, 24])))
              .skip)))
            (.ops [⟨(some 171), none, .move (.t 24)⟩,
              ⟨(some 172), none, .bin .add 3 (.t 171) (.c (.int .i64 1))⟩,
              ⟨(some 24), none, .move (.t 172)⟩] (some [0, 2, 3, 9, 10, 14, 16, 18, 19, 20, 21, 22, 23, 24]))))))))
         (.ops [⟨(some 159), none, .move (.t 23)⟩,
           ⟨(some 160), none, .bin .add 3 (.t 159) (.c (.int .i64 1))⟩,
           ⟨(some 23), none, .move (.t 160)⟩] (some [0, 2, 3, 9, 10, 14, 16, 18, 19, 20, 21, 22, 23]))))))))
      (.ops [⟨(some 153), none, .move (.t 22)⟩,
        ⟨(some 154), none, .bin .add 3 (.t 153) (.c (.int .i64 1))⟩,
        ⟨(some 22), none, .move (.t 154)⟩] (some [0, 2, 3, 9, 10, 14, 16, 18, 19, 20, 21, 22])))))))
    (.seq (.seq (.ops [⟨(some 194), none, .move (.t 14)⟩,
      ⟨(some 195), none, .move (.t 19)⟩,
      ⟨(some 196), none, .indexAddr 1 (.t 194) (.t 195)⟩,
      ⟨(some 197), none, .load false 1 (.t 196)⟩,
      ⟨(some 198), none, .len (.t 197)⟩,
      ⟨(some 199), none, .move (.t 2)⟩,
      ⟨(some 200), none, .len (.t 199)⟩,
      ⟨(some 201), none, .bin .neq 3 (.t 198) (.t 200)⟩] (some [0, 2, 3, 9, 10, 14, 16, 18, 19, 20, 201]))
    (.cond (.t 201)
     (.seq (.ops [⟨(some 8), none, .move (.c (.bool false))⟩] (some [8]))
     .ret)
     .skip))
    (.seq (.ops [⟨(some 25), none, .move (.c (.int .i64 0))⟩] (some [0, 2, 3, 9, 10, 14, 16, 18, 19, 20, 25]))
    (.block 10
     (.loop
      (.seq (.seq (.ops [⟨(some 202), none, .move (.t 25)⟩,
        ⟨(some 203), none, .move (.t 2)⟩,
        ⟨(some 204), none, .len (.t 203)⟩,
        ⟨(some 205), none, .bin .lss 3 (.t 202) (.t 204)⟩] (some [0, 2, 3, 9, 10, 14, 16, 18, 19, 20, 25, 205]))
      (.cond (.t 205)
       .skip
       (.exit 10)))
      (.seq (.block 11
       (.seq (.seq (.opsr [⟨(some 208), none, .move (.t 14)⟩,
         ⟨(some 209), none, .move (.t 19)⟩,
         ⟨(some 210), none, .indexAddr 1 (.t 208) (.t 209)⟩,
         ⟨(some 211), none, .load false 1 (.t 210)⟩,
         ⟨(some 212), none, .move (.t 25)⟩,
         ⟨(some 213), none, .indexAddr 1 (.t 211) (.t 212)⟩,
         ⟨(some 214), none, .load false 1 (.t 213)⟩,
         ⟨(some 215), none, .move (.t 20)⟩,
         ⟨(some 216), none, .move (.t 25)⟩,
         ⟨(some 217), none, .indexAddr 1 (.t 215) (.t 216)⟩,
         ⟨(some 218), none, .load false 1 (.t 217)⟩,
         ⟨(some 219), none, .bin .neq 4 (.t 214) (.t 218)⟩] (some [0, 2, 3, 9, 10, 14, 16, 18, 19, 20, 25, 219]))
       (.cond (.t 219)
        (.seq (.ops [⟨(some 8), none, .move (.c (.bool false))⟩] (some [8]))
        .ret)
        .skip))
       (.seq (.opsd [(0, 0, ⟨(some 220), none, .move (.t 20)⟩),
         (1, 0, ⟨(some 221), none, .move (.t 25)⟩),
         (2, 3, ⟨(some 222), none, .indexAddr 1 (.t 220) (.t 221)⟩),
         (3, 7, ⟨(some 223), none, .load false 1 (.t 222)⟩),
         (4, 15, ⟨(some 224), none, .move (.t 223)⟩),
         (5, 31, ⟨(some 225), (some (224, true)), .move (.t 2)⟩),
         (6, 31, ⟨(some 226), (some (224, true)), .move (.t 19)⟩),
         (7, 127, ⟨(some 227), (some (224, true)), .indexAddr 1 (.t 225) (.t 226)⟩),
         (8, 255, ⟨(some 228), (some (224, true)), .load false 1 (.t 227)⟩),
         (9, 31, ⟨(some 229), (some (224, true)), .move (.t 2)⟩),
         (10, 31, ⟨(some 230), (some (224, true)), .move (.t 25)⟩),
         (11, 1567, ⟨(some 231), (some (224, true)), .indexAddr 1 (.t 229) (.t 230)⟩),
         (12, 3615, ⟨(some 232), (some (224, true)), .load false 1 (.t 231)⟩),
         (13, 8191, ⟨(some 233), (some (224, true)), .call (.c (.func (.func 24) #[] #[])) [(.t 228), (.t 232)]⟩),
         (14, 16383, ⟨(some 234), (some (224, true)), .un .not (.t 233)⟩),
         (15, 32767, ⟨(some 235), none, .pick (.t 224) (.t 234) (.c (.bool false))⟩)] (some [0, 2, 3, 9, 10, 14, 16, 18, 19, 20, 25, 235]))
       (.cond (.t 235)
        (.seq (.seq (.ops [⟨(some 236), none, .move (.t 18)⟩,
          ⟨(some 237), none, .move (.t 16)⟩,
          ⟨(some 238), none, .len (.t 237)⟩,
          ⟨(some 239), none, .bin .geq 3 (.t 236) (.t 238)⟩,
          ⟨(some 240), none, .move (.t 239)⟩,
          ⟨(some 241), (some (240, false)), .move (.t 16)⟩,
          ⟨(some 242), (some (240, false)), .move (.t 18)⟩,
          ⟨(some 243), (some (240, false)), .indexAddr 2 (.t 241) (.t 242)⟩,
          ⟨(some 244), (some (240, false)), .load true 2 (.t 243)⟩,
          ⟨(some 245), (some (240, false)), .move (.t 19)⟩,
          ⟨(some 246), (some (240, false)), .move (.t 25)⟩,
          ⟨(some 247), (some (240, false)), .buildArr [(.int .i64 0), (.int .i64 0)] 1 [(0, (.t 245)), (1, (.t 246))]⟩,
          ⟨(some 248), (some (240, false)), .bin .neq 61 (.t 244) (.t 247)⟩,
          ⟨(some 249), none, .pick (.t 240) (.c (.bool true)) (.t 248)⟩] (some [0, 2, 3, 9, 10, 14, 16, 18, 19, 20, 25, 249]))
        (.cond (.t 249)
         (.seq (.ops [⟨(some 8), none, .move (.c (.bool false))⟩] (some [8]))
         .ret)
         .skip))
        (.ops [⟨(some 250), none, .move (.t 18)⟩,
          ⟨(some 251), none, .bin .add 3 (.t 250) (.c (.int .i64 1))⟩,
          ⟨(some 18), none, .move (.t 251)⟩] (some [0, 2, 3, 9, 10, 14, 16, 18, 19, 20, 25])))
        .skip))))
      (.ops [⟨(some 206), none, .move (.t 25)⟩,
        ⟨(some 207), none, .bin .add 3 (.t 206) (.c (.int .i64 1))⟩,
        ⟨(some 25), none, .move (.t 207)⟩] (some [0, 2, 3, 9, 10, 14, 16, 18, 19, 20, 25])))))))))))))
   (.ops [⟨(some 139), none, .move (.t 19)⟩,
     ⟨(some 140), none, .bin .add 3 (.t 139) (.c (.int .i64 1))⟩,
     ⟨(some 19), none, .move (.t 140)⟩] (some [0, 2, 3, 9, 10, 14, 16, 18, 19]))))
def x7L6 : XCode := (.seq (.seq (.ops [⟨(some 253), none, .move (.t 27)⟩,
     ⟨(some 254), none, .move (.t 0)⟩,
     ⟨(some 255), none, .bin .lss 3 (.t 253) (.t 254)⟩] (some [0, 3, 9, 10, 16, 18, 26, 27, 255]))
   (.cond (.t 255)
    .skip
    (.exit 12)))
   (.seq (.block 13
    (.seq (.ops [⟨(some 258), none, .move (.t 10)⟩,
      ⟨(some 259), none, .move (.t 27)⟩,
      ⟨(some 260), none, .move (.t 3)⟩,
      ⟨(some 261), none, .call (.c (.func (.func 21) #[] #[])) [(.t 258), (.t 259), (.t 260), (.c (.bool true))]⟩] (some [0, 3, 9, 10, 16, 18, 26, 27, 261]))
    (.cond (.t 261)
     (.ops [⟨(some 262), none, .move (.t 26)⟩,
       ⟨(some 263), none, .move (.t 27)⟩,
       ⟨(some 264), none, .buildSlice [(.int .i64 0)] 1 1 [(0, (.t 263))]⟩,
       ⟨(some 265), none, .append 1 8 [(.int .i64 0)] (.t 262) (.t 264)⟩,
       ⟨(some 26), none, .move (.t 265)⟩] (some [0, 3, 9, 10, 16, 18, 26, 27]))
     .skip)))
   (.ops [⟨(some 256), none, .move (.t 27)⟩,
     ⟨(some 257), none, .bin .add 3 (.t 256) (.c (.int .i64 1))⟩,
     ⟨(some 27), none, .move (.t 257)⟩] (some [0, 3, 9, 10, 16, 18, 26, 27]))))
abbrev IEnv (k : Nat) (vr : Value) (g : Int) (t bq : Nat) (ov lv : Value) (c i : Nat) : Env := [(0, I k), (2, vr), (3, U g), (9, Pt t), (10, Pt bq), (14, ov), (16, lv), (18, I c), (19, I i)]
abbrev CEnv (k : Nat) (vr : Value) (g : Int) (t bq : Nat) (ov lv : Value) (c i n sid j : Nat) : Env := [(0, I k), (2, vr), (3, U g), (9, Pt t), (10, Pt bq), (14, ov), (16, lv), (18, I c), (19, I i), (20, RowV n sid), (25, I j)]

section
variable {m m0 : Mem} {b t r bq : Nat} {Fq : List Nat} {pq : Option Addr} {vr ov lv : Value} {T : Tb} {R : Rf} {rooms : List (List Int)} {g : Int} {c i sid j : Nat} {S : Nat → Bool} {K : List XItem} {Q N : Post} {B : Nat → Post}
theorem cmp_body (hC : Cx m b t r bq Fq pq vr ov lv T R rooms (wayA T rooms) (leakTo (wayA T rooms) rooms rooms.length rooms.length)) (hD : Dx T R rooms) (hi : i < rooms.length) (hj : j < rooms.length) (hseen : m.get sid = some (rowB rooms.length S)) (hS : S j = wayA T rooms i j)
    (hc : c = (leakTo (wayA T rooms) rooms rooms.length i ++ leakRow (wayA T rooms) rooms i j).length)
    (h : N (CEnv T.l.length vr g t bq ov lv (leakTo (wayA T rooms) rooms rooms.length i ++ leakRow (wayA T rooms) rooms i (j + 1)).length i rooms.length sid (j + 1)) m) :
    Go' Try.prog tabK [.code x7L5] (CEnv T.l.length vr g t bq ov lv c i rooms.length sid j) m Q N B := by
  unfold x7L5
  have hj' : (j : Int) < (rooms.length : Int) := by omega
  have hn5 := hD.n
  have wj : IntKind.i64.wrap ((j : Int) + 1) = ((j + 1 : Nat) : Int) := by rw [wrap_i64 (by omega) (by omega)]; omega
  obtain ⟨oid, o, cap, id, rfl, ho, hcc, hrow, _, _⟩ := hC.mat i hi
  have q1 := cellsB_at (f := wayA T rooms i) hj
  have q2 := cellsB_at (f := S) hj
  obtain ⟨us, hus⟩ : ∃ us, rooms[i]? = some us := ⟨_, List.getElem?_eq_getElem hi⟩
  obtain ⟨ws, hws⟩ : ∃ ws, rooms[j]? = some ws := ⟨_, List.getElem?_eq_getElem hj⟩
  obtain ⟨a, c3, o3, p3, c3', hva3, ho3, hc3, hru⟩ := hC.rms.at hus
  obtain ⟨a4, c4, o4, p4, c4', hva4, ho4, hc4, hrw⟩ := hC.rms.at hws
  subst hva3
  cases hva4
  rw [ho3] at ho4
  cases ho4
  obtain ⟨pl, cl, hlv⟩ := hC.lks.slice
  rw [List.length_map] at hlv
  obtain ⟨L, hL⟩ : ∃ L, leakTo (wayA T rooms) rooms rooms.length rooms.length = L := ⟨_, rfl⟩
  have hk24 : Ca 24 [.slice p3 us.length c3', .slice p4 ws.length c4'] m (.bool (inL us ws)) m := by
    have l1 : us.length ≤ 4611686018427387903 := by
      obtain ⟨f, _, hp, rfl⟩ := hD.few us (List.mem_of_getElem? hus)
      rw [len_lab]; omega
    have l2 : ws.length ≤ 4611686018427387903 := by
      obtain ⟨f, _, hp, rfl⟩ := hD.few ws (List.mem_of_getElem? hws)
      rw [len_lab]; omega
    exact rin_spec hru hrw l1 l2
  have hLB : leakB (wayA T rooms) rooms i j = (wayA T rooms i j && !inL us ws) := by unfold leakB; rw [hus, hws]; rfl
  rw [leakRow_succ, hLB] at h
  obtain ⟨rest, hrest⟩ := leak_prefix (W := wayA T rooms) (rooms := rooms) hi hj
  rw [leakRow_succ, hLB] at hrest
  rw [hS] at q2
  cases h1 : wayA T rooms i j with
  | false =>
    rw [h1] at q1 q2 h
    simp only [Bool.false_and, cond_false, List.append_nil, ← hc] at h
    simp only [symA, symF, Nat.reduceOr, Nat.reduceAnd, Nat.reduceShiftLeft, Nat.zero_or, symB, wantedX, X.put, X.look, Arg.ev, keepOf, restrict, evs, evO, initEnv, xres, tup, noTup, cls, quiet, Nat.reduceAdd, Nat.reduceEqDiff, ↓reduceIte, reduceCtorEq, goInt, exists_eq_left', eq_self, Int.reduceLT, Int.reduceLE, Int.reduceEq, Int.reduceNeg, Int.reduceAdd, Int.reduceSub, forall_const, ne_eq, undef, Nat.reducePow, Nat.reduceDiv, Nat.reduceMod, hj', hi, hj, ho, hcc, hrow, hseen, q1, q2, bin_bneq]
    refine goF_of ?_
    simp only [symA, symF, Nat.reduceOr, Nat.reduceAnd, Nat.reduceShiftLeft, Nat.zero_or, symB, wantedX, X.put, X.look, Arg.ev, keepOf, restrict, evs, evO, initEnv, xres, tup, noTup, cls, quiet, Nat.reduceAdd, Nat.reduceEqDiff, ↓reduceIte, reduceCtorEq, goInt, exists_eq_left', eq_self, Int.reduceLT, Int.reduceLE, Int.reduceEq, Int.reduceNeg, Int.reduceAdd, Int.reduceSub, forall_const, ne_eq, undef, Nat.reducePow, Nat.reduceDiv, Nat.reduceMod, hj, hseen, q2, wj]
    exact h
  | true =>
    rw [h1] at q1 q2 h hrest
    rw [Bool.true_and] at h hrest
    simp only [symA, symF, Nat.reduceOr, Nat.reduceAnd, Nat.reduceShiftLeft, Nat.zero_or, symB, wantedX, X.put, X.look, Arg.ev, keepOf, restrict, evs, evO, initEnv, xres, tup, noTup, cls, quiet, Nat.reduceAdd, Nat.reduceEqDiff, ↓reduceIte, reduceCtorEq, goInt, exists_eq_left', eq_self, Int.reduceLT, Int.reduceLE, Int.reduceEq, Int.reduceNeg, Int.reduceAdd, Int.reduceSub, forall_const, ne_eq, undef, Nat.reducePow, Nat.reduceDiv, Nat.reduceMod, hj', hi, hj, ho, hcc, hrow, hseen, q1, q2, bin_bneq]
    refine goF_of ?_
    cases h2 : inL us ws with
    | true =>
      rw [h2] at hk24 h
      simp only [Bool.not_true, cond_false, List.append_nil, ← hc] at h
      simp only [symA, symF, Nat.reduceOr, Nat.reduceAnd, Nat.reduceShiftLeft, Nat.zero_or, symB, wantedX, X.put, X.look, Arg.ev, keepOf, restrict, evs, evO, initEnv, xres, tup, noTup, cls, quiet, Nat.reduceAdd, Nat.reduceEqDiff, ↓reduceIte, reduceCtorEq, goInt, exists_eq_left', eq_self, Int.reduceLT, Int.reduceLE, Int.reduceEq, Int.reduceNeg, Int.reduceAdd, Int.reduceSub, forall_const, ne_eq, undef, Nat.reducePow, Nat.reduceDiv, Nat.reduceMod, hi, hj, hseen, q2, ho3, hc3, hc4, goFV3c hk24, wj]
      exact h
    | false =>
      rw [h2] at hk24 h hrest
      simp only [Bool.not_false, cond_true] at h hrest
      have hat : L[c]? = some (i, j) := by
        rw [← hL, hrest, List.getElem?_append_left (by rw [List.length_append, List.length_append, hc, List.length_append]; simp), ← List.append_assoc, hc, List.getElem?_append_right (Nat.le_refl _)]
        simp
      have hcl : c < L.length := (List.getElem?_eq_some_iff.1 hat).1
      have hn : ¬ (L.length : Int) ≤ (c : Int) := by omega
      have l2 : ∃ a o, pl = some a ∧ m.get a.block = some o ∧ ldA m 2 (.pointer (some ⟨a.block, a.off + c * 2, none⟩)) = some (.val (.agg ⟨rowP (i, j)⟩) m) := by
        obtain ⟨p', c', hv, _, hrd⟩ := hC.lks
        rw [hL] at hrd
        rw [hlv, List.length_map] at hv
        cases hv
        obtain ⟨k1, a, o, rfl, k3, k4, k5⟩ := hrd c (rowP (i, j)) (by rw [List.getElem?_map, hat]; rfl)
        have := xload_cells (m := m) (b := a.block) (off := a.off + c * 2) (n := 2) (r := rowP (i, j)) k4 rfl (by omega) k5
        exact ⟨a, o, rfl, k4, by simp [ldA, this]⟩
      obtain ⟨al, ol, rfl, hol, hxl⟩ := l2
      have hLle : L.length ≤ 25 := by
        have := leakTo_len (W := wayA T rooms) (rooms := rooms) (n := rooms.length) rooms.length
        rw [hL] at this
        exact Nat.le_trans this (Nat.le_trans (Nat.mul_le_mul hn5 hn5) (by omega))
      have wc : IntKind.i64.wrap ((c : Int) + 1) = ((c + 1 : Nat) : Int) := by rw [wrap_i64 (by omega) (by omega)]; omega
      have ba : ∀ m : Mem, buildArrE m [I 0, I 0] 1 [(0, I (i : Int)), (1, I (j : Int))] = some (.val (.agg ⟨rowP (i, j)⟩) m) := fun m => by kernel_rfl
      have hfin : (leakTo (wayA T rooms) rooms rooms.length i ++ (leakRow (wayA T rooms) rooms i j ++ [(i, j)])).length = c + 1 := by
        rw [← List.append_assoc, List.length_append, ← hc]; rfl
      rw [hfin] at h
      rw [hL] at hlv
      subst hlv
      simp only [symA, symF, Nat.reduceOr, Nat.reduceAnd, Nat.reduceShiftLeft, Nat.zero_or, symB, wantedX, X.put, X.look, Arg.ev, keepOf, restrict, evs, evO, initEnv, xres, tup, noTup, cls, quiet, Nat.reduceAdd, Nat.reduceEqDiff, ↓reduceIte, reduceCtorEq, goInt, exists_eq_left', eq_self, Int.reduceLT, Int.reduceLE, Int.reduceEq, Int.reduceNeg, Int.reduceAdd, Int.reduceSub, forall_const, ne_eq, undef, Nat.reducePow, Nat.reduceDiv, Nat.reduceMod, hi, hj, hseen, q2, ho3, hc3, hc4, goFV3c hk24, hn, hcl, hol, hxl, xi_buildArr, ba, neq61, wc, wj]
      exact h

theorem i_body (hC : Cx m b t r bq Fq pq vr ov lv T R rooms (wayA T rooms) (leakTo (wayA T rooms) rooms rooms.length rooms.length)) (hD : Dx T R rooms) (hi : i < rooms.length) (hc : c = (leakTo (wayA T rooms) rooms rooms.length i).length)
    (h : ∀ m', Fm (fun z => b ≤ z) m m' → N (IEnv T.l.length vr g t bq ov lv (leakTo (wayA T rooms) rooms rooms.length (i + 1)).length (i + 1)) m') :
    Go' Try.prog tabK [.code x7L1] (IEnv T.l.length vr g t bq ov lv c i) m Q N B := by
  unfold x7L1
  have hi' : (i : Int) < (rooms.length : Int) := by omega
  have hn5 := hD.n
  have hbn := hC.next
  have wi : IntKind.i64.wrap ((i : Int) + 1) = ((i + 1 : Nat) : Int) := by rw [wrap_i64 (by omega) (by omega)]; omega
  obtain ⟨pr, cr, rfl⟩ := hC.rms.slice
  obtain ⟨m1, hm1⟩ : ∃ m1, m.push (rowB rooms.length fun _ => false) = m1 := ⟨_, rfl⟩
  have f1 : Nx m m1 := hm1 ▸ .push
  have hn1 : m1.next = m.next + 1 := by rw [← hm1]; simp
  have g1 : m1.get m.next = some (rowB rooms.length fun _ => false) := by rw [← hm1, push_self]
  have mk : makeSliceE m [.bool false] 1 (I (rooms.length : Int)) (I (rooms.length : Int)) = some (.val (RowV rooms.length m.next) m1) := by
    rw [makeSlice_at (by omega) (by omega), cellsB_zero, hm1]
  obtain ⟨m2, s2, g2, f2, n2⟩ := rowB_store (x := true) g1 hi
  obtain ⟨m3, hm3⟩ : ∃ m3, m2.push { cells := [I (i : Int)], rw := true, spare := none, kin := [] } = m3 := ⟨_, rfl⟩
  have f3 : Nx m2 m3 := hm3 ▸ .push
  have hn3 : m3.next = m2.next + 1 := by rw [← hm3]; simp
  have bl : buildSliceE m2 [I 0] 1 1 [(0, I (i : Int))] = some (.val (.slice (some ⟨m2.next, 0, none⟩) 1 1) m3) := by rw [← hm3]; exact buildSlice_one rfl
  have F3 : Fm (fun z => b ≤ z) m m3 := ((f1.mono fun _ _ h => h.elim).trans (f2.mono fun z _ hz => by omega)).trans (f3.mono fun _ _ h => h.elim)
  have hS : StAt m3 b rooms.length m.next (fun c => if c = i then true else false) [i] (.slice (some ⟨m2.next, 0, none⟩) 1 1) [m2.next] :=
    ⟨f3.get (by omega) (fun h => h) g2, by rw [← hm3]; exact Own3.one, by simp; omega, by omega, by omega, by simp; omega⟩
  simp only [symA, go_opsd, symB, wantedX, X.put, X.look, Arg.ev, keepOf, restrict, evs, evO, initEnv, xres, tup, noTup, cls, quiet, Nat.reduceAdd, Nat.reduceEqDiff, ↓reduceIte, reduceCtorEq, goInt, exists_eq_left', eq_self, Int.reduceLT, Int.reduceLE, Int.reduceEq, Int.reduceNeg, Int.reduceAdd, Int.reduceSub, forall_const, ne_eq, undef, Nat.reducePow, Nat.reduceDiv, Nat.reduceMod, hi', xi_makeSlice, mk, hi, s2, bl]
  refine q_loop (hC.fr F3) hD hi hS (Rch.begin_ hi way_self) ?_
  intro m4 S4 todo4 td4 G4 q4 f4 hS4 hW4
  have hC4 := hC.fr (F3.trans f4)
  obtain ⟨oid, o, cap, id, rfl, ho, hcc, hrow, _, _⟩ := hC4.mat i hi
  show Ex _ _ _ _ [(0, _), (2, _), (3, _), (9, _), (10, _), (14, _), (16, _), (18, _), (19, _), (20, _), (21, _), (22, _), (152, _)] _ _ _ _
  simp only [symA, go_opsd, symB, wantedX, X.put, X.look, Arg.ev, keepOf, restrict, evs, evO, initEnv, xres, tup, noTup, cls, quiet, Nat.reduceAdd, Nat.reduceEqDiff, ↓reduceIte, reduceCtorEq, goInt, exists_eq_left', eq_self, Int.reduceLT, Int.reduceLE, Int.reduceEq, Int.reduceNeg, Int.reduceAdd, Int.reduceSub, forall_const, ne_eq, undef, Nat.reducePow, Nat.reduceDiv, Nat.reduceMod, hi, ho, hcc]
  refine loop_go (fun jj e m' => m' = m4 ∧ ∃ j : Nat, j ≤ rooms.length ∧ jj = rooms.length - j ∧ e = CEnv T.l.length (.slice pr rooms.length cr) g t bq (.slice (some ⟨oid, 0, some 0⟩) rooms.length cap) lv (leakTo (wayA T rooms) rooms rooms.length i ++ leakRow (wayA T rooms) rooms i j).length i rooms.length m.next j) rooms.length ⟨rfl, 0, by omega, rfl, by rw [hc]; simp [leakRow]⟩ ?_
  rintro jj e m' N' B' hN hB ⟨rfl, j, hj, rfl, rfl⟩
  by_cases hjt : j < rooms.length
  · exact cmp_body hC4 hD hi hjt hS4.seen (hW4 j hjt) rfl (hN _ _ (rooms.length - (j + 1)) (by omega) ⟨rfl, j + 1, by omega, rfl, rfl⟩)
  · have hjt' : ¬ (j : Int) < (rooms.length : Int) := by omega
    have hje : j = rooms.length := by omega
    subst hje
    have fin := h m' (F3.trans f4)
    rw [leakTo_succ] at fin
    simp only [symA, go_opsd, symB, wantedX, X.put, X.look, Arg.ev, keepOf, restrict, evs, evO, initEnv, xres, tup, noTup, cls, quiet, Nat.reduceAdd, Nat.reduceEqDiff, ↓reduceIte, reduceCtorEq, goInt, exists_eq_left', eq_self, Int.reduceLT, Int.reduceLE, Int.reduceEq, Int.reduceNeg, Int.reduceAdd, Int.reduceSub, forall_const, ne_eq, undef, Nat.reducePow, Nat.reduceDiv, Nat.reduceMod, hjt']
    refine hB _ _ _ ?_
    simp only [symA, go_opsd, symB, wantedX, X.put, X.look, Arg.ev, keepOf, restrict, evs, evO, initEnv, xres, tup, noTup, cls, quiet, Nat.reduceAdd, Nat.reduceEqDiff, ↓reduceIte, reduceCtorEq, goInt, exists_eq_left', eq_self, Int.reduceLT, Int.reduceLE, Int.reduceEq, Int.reduceNeg, Int.reduceAdd, Int.reduceSub, forall_const, ne_eq, undef, Nat.reducePow, Nat.reduceDiv, Nat.reduceMod, wi]
    exact fin
end
end Go.Proofs.Ytfjeccaffenngaa
