/-
  Own work, printed by a program of ours (mkprog.py): the functions of this seat as code of the abstract run, and that each is the model's.
-/
import Derived.Test.YtecceimgpeookaaXLaw
import Derived.Test.YtecceimgpeookaaChecked
set_option maxRecDepth 100000
namespace Go.Proofs.Ytecceimgpeookaa.X
open Go

/-- cloisonne/cloisonnelaw08.TreeCursor -/
def x6 : XDecl := .code ⟨2, 
 (.seq (.ops [⟨(some 4), none, .move (.c (.bool false))⟩] (some [0, 1]))
 (.seq (.seq (.ops [⟨(some 19), none, .call (.c (.func (.func 25) #[] #[])) []⟩,
   ⟨(some 20), none, .un .not (.t 19)⟩] (some [0, 1, 20]))
 (.cond (.t 20)
  (.seq (.ops [⟨(some 4), none, .move (.c (.bool false))⟩] (some [4]))
  .ret)
  .skip))
 (.seq (.ops [⟨(some 21), none, .call (.c (.func (.func 26) #[] #[])) []⟩,
   ⟨(some 5), none, .move (.t 21)⟩] (some [0, 1, 5]))
 (.seq (.seq (.ops [⟨(some 6), none, .move (.c (.int .i64 0))⟩] (some [0, 1, 5, 6]))
 (.block 0
  (.loop
   (.seq (.seq (.ops [⟨(some 22), none, .move (.t 6)⟩,
     ⟨(some 23), none, .move (.t 0)⟩,
     ⟨(some 24), none, .len (.t 23)⟩,
     ⟨(some 25), none, .bin .lss 3 (.t 22) (.t 24)⟩,
     ⟨(some 26), none, .move (.t 25)⟩,
     ⟨(some 27), (some (26, true)), .move (.t 6)⟩,
     ⟨(some 28), (some (26, true)), .bin .lss 3 (.t 27) (.c (.int .i64 300))⟩,
     ⟨(some 29), none, .pick (.t 26) (.t 28) (.c (.bool false))⟩] (some [0, 1, 5, 6, 29]))
   (.cond (.t 29)
    .skip
    (.exit 0)))
   (.seq (.block 1
    (.seq (.ops [⟨(some 32), none, .move (.t 0)⟩,
      ⟨(some 33), none, .move (.t 6)⟩,
      ⟨(some 34), none, .indexAddr 3 (.t 32) (.t 33)⟩,
      ⟨(some 35), none, .fieldAddr 1 (.t 34)⟩,
      ⟨(some 36), none, .load false 1 (.t 35)⟩,
      ⟨(some 37), none, .calcB .len [9] 3 [(.t 36)]⟩,
      ⟨(some 38), none, .bin .leq 3 (.t 37) (.c (.int .i64 100))⟩] (some [0, 1, 5, 6, 38]))
    (.cond (.t 38)
     (.opsd [(0, 0, ⟨(some 39), none, .move (.t 5)⟩),
       (1, 0, ⟨(some 40), none, .move (.t 0)⟩),
       (2, 0, ⟨(some 41), none, .move (.t 6)⟩),
       (3, 6, ⟨(some 42), none, .indexAddr 3 (.t 40) (.t 41)⟩),
       (4, 14, ⟨(some 43), none, .fieldAddr 1 (.t 42)⟩),
       (5, 30, ⟨(some 44), none, .load false 1 (.t 43)⟩),
       (6, 0, ⟨(some 45), none, .move (.t 0)⟩),
       (7, 0, ⟨(some 46), none, .move (.t 6)⟩),
       (8, 192, ⟨(some 47), none, .indexAddr 3 (.t 45) (.t 46)⟩),
       (9, 448, ⟨(some 48), none, .fieldAddr 2 (.t 47)⟩),
       (10, 960, ⟨(some 49), none, .load false 1 (.t 48)⟩),
       (11, 2047, ⟨(some 50), none, .call (.c (.func (.func 27) #[] #[])) [(.t 39), (.t 44), (.t 49)]⟩)] (some [0, 1, 5, 6]))
     .skip)))
   (.ops [⟨(some 30), none, .move (.t 6)⟩,
     ⟨(some 31), none, .bin .add 3 (.t 30) (.c (.int .i64 1))⟩,
     ⟨(some 6), none, .move (.t 31)⟩] (some [0, 1, 5, 6])))))))
 (.seq (.ops [⟨(some 51), none, .buildSlice [(.string .empty)] 1 0 []⟩,
   ⟨(some 7), none, .move (.t 51)⟩] (some [1, 5, 7]))
 (.seq (.ops [⟨(some 52), none, .move (.t 5)⟩,
   ⟨(some 53), none, .call (.c (.func (.func 28) #[] #[])) [(.t 52), (.c (.string .empty)), (.c (.int .i64 300))]⟩,
   ⟨(some 8), none, .move (.t 53)⟩] (some [1, 5, 7, 8]))
 (.seq (.seq (.ops [⟨(some 9), none, .move (.c (.int .i64 0))⟩] (some [1, 5, 7, 8, 9]))
 (.block 2
  (.loop
   (.seq (.seq (.ops [⟨(some 54), none, .move (.t 9)⟩,
     ⟨(some 55), none, .move (.t 8)⟩,
     ⟨(some 56), none, .len (.t 55)⟩,
     ⟨(some 57), none, .bin .lss 3 (.t 54) (.t 56)⟩] (some [1, 5, 7, 8, 9, 57]))
   (.cond (.t 57)
    .skip
    (.exit 2)))
   (.seq (.block 3
    (.seq (.ops [⟨(some 10), none, .move (.c (.bool false))⟩] (some [1, 5, 7, 8, 9, 10]))
    (.seq (.seq (.ops [⟨(some 11), none, .move (.c (.int .i64 0))⟩] (some [1, 5, 7, 8, 9, 10, 11]))
    (.block 4
     (.loop
      (.seq (.seq (.ops [⟨(some 60), none, .move (.t 11)⟩,
        ⟨(some 61), none, .move (.t 1)⟩,
        ⟨(some 62), none, .len (.t 61)⟩,
        ⟨(some 63), none, .bin .lss 3 (.t 60) (.t 62)⟩,
        ⟨(some 64), none, .move (.t 63)⟩,
        ⟨(some 65), (some (64, true)), .move (.t 11)⟩,
        ⟨(some 66), (some (64, true)), .bin .lss 3 (.t 65) (.c (.int .i64 300))⟩,
        ⟨(some 67), none, .pick (.t 64) (.t 66) (.c (.bool false))⟩] (some [1, 5, 7, 8, 9, 10, 11, 67]))
      (.cond (.t 67)
       .skip
       (.exit 4)))
      (.seq (.block 5
       (.opsr [⟨(some 70), none, .move (.t 10)⟩,
         ⟨(some 71), none, .move (.t 70)⟩,
         ⟨(some 72), (some (71, false)), .move (.t 1)⟩,
         ⟨(some 73), (some (71, false)), .move (.t 11)⟩,
         ⟨(some 74), (some (71, false)), .indexAddr 3 (.t 72) (.t 73)⟩,
         ⟨(some 75), (some (71, false)), .fieldAddr 1 (.t 74)⟩,
         ⟨(some 76), (some (71, false)), .load false 1 (.t 75)⟩,
         ⟨(some 77), (some (71, false)), .move (.t 8)⟩,
         ⟨(some 78), (some (71, false)), .move (.t 9)⟩,
         ⟨(some 79), (some (71, false)), .indexAddr 1 (.t 77) (.t 78)⟩,
         ⟨(some 80), (some (71, false)), .load false 1 (.t 79)⟩,
         ⟨(some 81), (some (71, false)), .bin .eql 9 (.t 76) (.t 80)⟩,
         ⟨(some 82), none, .pick (.t 71) (.c (.bool true)) (.t 81)⟩,
         ⟨(some 10), none, .move (.t 82)⟩] (some [1, 5, 7, 8, 9, 10, 11])))
      (.ops [⟨(some 68), none, .move (.t 11)⟩,
        ⟨(some 69), none, .bin .add 3 (.t 68) (.c (.int .i64 1))⟩,
        ⟨(some 11), none, .move (.t 69)⟩] (some [1, 5, 7, 8, 9, 10, 11])))))))
    (.seq (.ops [⟨(some 83), none, .move (.t 10)⟩,
      ⟨(some 84), none, .un .not (.t 83)⟩] (some [1, 5, 7, 8, 9, 84]))
    (.cond (.t 84)
     (.ops [⟨(some 85), none, .move (.t 7)⟩,
       ⟨(some 86), none, .move (.t 8)⟩,
       ⟨(some 87), none, .move (.t 9)⟩,
       ⟨(some 88), none, .indexAddr 1 (.t 86) (.t 87)⟩,
       ⟨(some 89), none, .load false 1 (.t 88)⟩,
       ⟨(some 90), none, .buildSlice [(.string .empty)] 1 1 [(0, (.t 89))]⟩,
       ⟨(some 91), none, .append 1 16 [(.string .empty)] (.t 85) (.t 90)⟩,
       ⟨(some 7), none, .move (.t 91)⟩] (some [1, 5, 7, 8, 9]))
     .skip)))))
   (.ops [⟨(some 58), none, .move (.t 9)⟩,
     ⟨(some 59), none, .bin .add 3 (.t 58) (.c (.int .i64 1))⟩,
     ⟨(some 9), none, .move (.t 59)⟩] (some [1, 5, 7, 8, 9])))))))
 (.seq (.ops [⟨(some 92), none, .buildSlice [(.string .empty)] 1 0 []⟩,
   ⟨(some 12), none, .move (.t 92)⟩] (some [1, 5, 7, 12]))
 (.seq (.ops [⟨(some 94), none, .move (.t 5)⟩,
   ⟨(some 95), none, .call (.c (.func (.func 29) #[] #[])) [(.t 94), (.c (.string .empty))]⟩,
   ⟨(some 93), none, .move (.t 95)⟩,
   ⟨(some 96), none, .extract (.t 93) 0⟩,
   ⟨(some 97), none, .extract (.t 93) 1⟩,
   ⟨(some 98), none, .extract (.t 93) 2⟩,
   ⟨(some 13), none, .move (.t 96)⟩,
   ⟨(some 14), none, .move (.t 97)⟩,
   ⟨(some 15), none, .move (.t 98)⟩] (some [1, 5, 7, 12, 13, 15]))
 (.seq (.seq (.ops [⟨(some 16), none, .move (.c (.int .i64 0))⟩] (some [1, 5, 7, 12, 13, 15, 16]))
 (.block 6
  (.loop
   (.seq (.seq (.ops [⟨(some 99), none, .move (.t 15)⟩,
     ⟨(some 100), none, .move (.t 99)⟩,
     ⟨(some 101), (some (100, true)), .move (.t 16)⟩,
     ⟨(some 102), (some (100, true)), .bin .lss 3 (.t 101) (.c (.int .i64 600))⟩,
     ⟨(some 103), none, .pick (.t 100) (.t 102) (.c (.bool false))⟩] (some [1, 5, 7, 12, 13, 15, 16, 103]))
   (.cond (.t 103)
    .skip
    (.exit 6)))
   (.seq (.block 7
    (.seq (.ops [⟨(some 106), none, .move (.t 12)⟩,
      ⟨(some 107), none, .move (.t 13)⟩,
      ⟨(some 108), none, .buildSlice [(.string .empty)] 1 1 [(0, (.t 107))]⟩,
      ⟨(some 109), none, .append 1 16 [(.string .empty)] (.t 106) (.t 108)⟩,
      ⟨(some 12), none, .move (.t 109)⟩] (some [1, 5, 7, 12, 13, 16]))
    (.seq (.seq (.ops [⟨(some 110), none, .move (.t 16)⟩,
      ⟨(some 111), none, .move (.t 1)⟩,
      ⟨(some 112), none, .len (.t 111)⟩,
      ⟨(some 113), none, .bin .lss 3 (.t 110) (.t 112)⟩,
      ⟨(some 114), none, .move (.t 113)⟩,
      ⟨(some 115), (some (114, true)), .move (.t 16)⟩,
      ⟨(some 116), (some (114, true)), .bin .lss 3 (.t 115) (.c (.int .i64 300))⟩,
      ⟨(some 117), none, .pick (.t 114) (.t 116) (.c (.bool false))⟩,
      ⟨(some 118), none, .move (.t 117)⟩,
      ⟨(some 119), (some (118, true)), .move (.t 1)⟩,
      ⟨(some 120), (some (118, true)), .move (.t 16)⟩,
      ⟨(some 121), (some (118, true)), .indexAddr 3 (.t 119) (.t 120)⟩,
      ⟨(some 122), (some (118, true)), .fieldAddr 1 (.t 121)⟩,
      ⟨(some 123), (some (118, true)), .load false 1 (.t 122)⟩,
      ⟨(some 124), (some (118, true)), .calcB .len [9] 3 [(.t 123)]⟩,
      ⟨(some 125), (some (118, true)), .bin .leq 3 (.t 124) (.c (.int .i64 100))⟩,
      ⟨(some 126), none, .pick (.t 118) (.t 125) (.c (.bool false))⟩] (some [1, 5, 7, 12, 13, 16, 126]))
    (.cond (.t 126)
     (.seq (.ops [⟨(some 127), none, .move (.t 1)⟩,
       ⟨(some 128), none, .move (.t 16)⟩,
       ⟨(some 129), none, .indexAddr 3 (.t 127) (.t 128)⟩,
       ⟨(some 130), none, .fieldAddr 0 (.t 129)⟩,
       ⟨(some 131), none, .load false 1 (.t 130)⟩,
       ⟨(some 132), none, .bin .eql 3 (.t 131) (.c (.int .i64 1))⟩] (some [1, 5, 7, 12, 13, 16, 132]))
     (.cond (.t 132)
      (.opsd [(0, 0, ⟨(some 133), none, .move (.t 5)⟩),
        (1, 0, ⟨(some 134), none, .move (.t 1)⟩),
        (2, 0, ⟨(some 135), none, .move (.t 16)⟩),
        (3, 6, ⟨(some 136), none, .indexAddr 3 (.t 134) (.t 135)⟩),
        (4, 14, ⟨(some 137), none, .fieldAddr 1 (.t 136)⟩),
        (5, 30, ⟨(some 138), none, .load false 1 (.t 137)⟩),
        (6, 0, ⟨(some 139), none, .move (.t 1)⟩),
        (7, 0, ⟨(some 140), none, .move (.t 16)⟩),
        (8, 192, ⟨(some 141), none, .indexAddr 3 (.t 139) (.t 140)⟩),
        (9, 448, ⟨(some 142), none, .fieldAddr 2 (.t 141)⟩),
        (10, 960, ⟨(some 143), none, .load false 1 (.t 142)⟩),
        (11, 2047, ⟨(some 144), none, .call (.c (.func (.func 27) #[] #[])) [(.t 133), (.t 138), (.t 143)]⟩)] (some [1, 5, 7, 12, 13, 16]))
      (.ops [⟨(some 145), none, .move (.t 5)⟩,
        ⟨(some 146), none, .move (.t 1)⟩,
        ⟨(some 147), none, .move (.t 16)⟩,
        ⟨(some 148), none, .indexAddr 3 (.t 146) (.t 147)⟩,
        ⟨(some 149), none, .fieldAddr 1 (.t 148)⟩,
        ⟨(some 150), none, .load false 1 (.t 149)⟩,
        ⟨(some 151), none, .call (.c (.func (.func 30) #[] #[])) [(.t 145), (.t 150)]⟩] (some [1, 5, 7, 12, 13, 16]))))
     .skip))
    (.ops [⟨(some 153), none, .move (.t 5)⟩,
      ⟨(some 154), none, .move (.t 13)⟩,
      ⟨(some 155), none, .call (.c (.func (.func 31) #[] #[])) [(.t 153), (.t 154)]⟩,
      ⟨(some 152), none, .move (.t 155)⟩,
      ⟨(some 156), none, .extract (.t 152) 0⟩,
      ⟨(some 157), none, .extract (.t 152) 1⟩,
      ⟨(some 158), none, .extract (.t 152) 2⟩,
      ⟨(some 13), none, .move (.t 156)⟩,
      ⟨(some 15), none, .move (.t 158)⟩] (some [1, 5, 7, 12, 13, 15, 16])))))
   (.ops [⟨(some 104), none, .move (.t 16)⟩,
     ⟨(some 105), none, .bin .add 3 (.t 104) (.c (.int .i64 1))⟩,
     ⟨(some 16), none, .move (.t 105)⟩] (some [1, 5, 7, 12, 13, 15, 16])))))))
 (.seq (.seq (.ops [⟨(some 159), none, .move (.t 15)⟩] (some [7, 12, 159]))
 (.cond (.t 159)
  (.seq (.ops [⟨(some 4), none, .move (.c (.bool false))⟩] (some [4]))
  .ret)
  .skip))
 (.seq (.ops [⟨(some 17), none, .move (.c (.int .i64 0))⟩] (some [7, 12, 17]))
 (.seq (.seq (.ops [⟨(some 18), none, .move (.c (.int .i64 0))⟩] (some [7, 12, 17, 18]))
 (.block 8
  (.loop
   (.seq (.seq (.ops [⟨(some 160), none, .move (.t 18)⟩,
     ⟨(some 161), none, .move (.t 12)⟩,
     ⟨(some 162), none, .len (.t 161)⟩,
     ⟨(some 163), none, .bin .lss 3 (.t 160) (.t 162)⟩] (some [7, 12, 17, 18, 163]))
   (.cond (.t 163)
    .skip
    (.exit 8)))
   (.seq (.block 9
    (.seq (.seq (.opsr [⟨(some 166), none, .move (.t 18)⟩,
      ⟨(some 167), none, .bin .gtr 3 (.t 166) (.c (.int .i64 0))⟩,
      ⟨(some 168), none, .move (.t 167)⟩,
      ⟨(some 169), (some (168, true)), .move (.t 12)⟩,
      ⟨(some 170), (some (168, true)), .move (.t 18)⟩,
      ⟨(some 171), (some (168, true)), .bin .sub 3 (.t 170) (.c (.int .i64 1))⟩,
      ⟨(some 172), (some (168, true)), .indexAddr 1 (.t 169) (.t 171)⟩,
      ⟨(some 173), (some (168, true)), .load false 1 (.t 172)⟩,
      ⟨(some 174), (some (168, true)), .move (.t 12)⟩,
      ⟨(some 175), (some (168, true)), .move (.t 18)⟩,
      ⟨(some 176), (some (168, true)), .indexAddr 1 (.t 174) (.t 175)⟩,
      ⟨(some 177), (some (168, true)), .load false 1 (.t 176)⟩,
      ⟨(some 178), (some (168, true)), .bin .geq 9 (.t 173) (.t 177)⟩,
      ⟨(some 179), none, .pick (.t 168) (.t 178) (.c (.bool false))⟩] (some [7, 12, 17, 18, 179]))
    (.cond (.t 179)
     (.seq (.ops [⟨(some 4), none, .move (.c (.bool false))⟩] (some [4]))
     .ret)
     .skip))
    (.seq (.opsr [⟨(some 180), none, .move (.t 17)⟩,
      ⟨(some 181), none, .move (.t 7)⟩,
      ⟨(some 182), none, .len (.t 181)⟩,
      ⟨(some 183), none, .bin .lss 3 (.t 180) (.t 182)⟩,
      ⟨(some 184), none, .move (.t 183)⟩,
      ⟨(some 185), (some (184, true)), .move (.t 12)⟩,
      ⟨(some 186), (some (184, true)), .move (.t 18)⟩,
      ⟨(some 187), (some (184, true)), .indexAddr 1 (.t 185) (.t 186)⟩,
      ⟨(some 188), (some (184, true)), .load false 1 (.t 187)⟩,
      ⟨(some 189), (some (184, true)), .move (.t 7)⟩,
      ⟨(some 190), (some (184, true)), .move (.t 17)⟩,
      ⟨(some 191), (some (184, true)), .indexAddr 1 (.t 189) (.t 190)⟩,
      ⟨(some 192), (some (184, true)), .load false 1 (.t 191)⟩,
      ⟨(some 193), (some (184, true)), .bin .eql 9 (.t 188) (.t 192)⟩,
      ⟨(some 194), none, .pick (.t 184) (.t 193) (.c (.bool false))⟩] (some [7, 12, 17, 18, 194]))
    (.cond (.t 194)
     (.ops [⟨(some 195), none, .move (.t 17)⟩,
       ⟨(some 196), none, .bin .add 3 (.t 195) (.c (.int .i64 1))⟩,
       ⟨(some 17), none, .move (.t 196)⟩] (some [7, 12, 17, 18]))
     .skip))))
   (.ops [⟨(some 164), none, .move (.t 18)⟩,
     ⟨(some 165), none, .bin .add 3 (.t 164) (.c (.int .i64 1))⟩,
     ⟨(some 18), none, .move (.t 165)⟩] (some [7, 12, 17, 18])))))))
 (.seq (.ops [⟨(some 197), none, .move (.t 17)⟩,
   ⟨(some 198), none, .move (.t 7)⟩,
   ⟨(some 199), none, .len (.t 198)⟩,
   ⟨(some 200), none, .bin .eql 3 (.t 197) (.t 199)⟩,
   ⟨(some 4), none, .move (.t 200)⟩] (some [4]))
 .ret)))))))))))))), [.tmp 4]⟩

theorem is6 : FnIs Try.prog 6 x6 := ⟨Try.f6, _, Try.func6, by kernel_rfl, rfl, by kernel_rfl, by decide, by kernel_rfl⟩

/-- cloisonne/cloisonnelaw08.TreePlays -/
def x7 : XDecl := .code ⟨3, 
 (.seq (.ops [⟨(some 6), none, .move (.c (.bool false))⟩] (some [0, 1, 2]))
 (.seq (.seq (.ops [⟨(some 25), none, .call (.c (.func (.func 25) #[] #[])) []⟩,
   ⟨(some 26), none, .un .not (.t 25)⟩] (some [0, 1, 2, 26]))
 (.cond (.t 26)
  (.seq (.ops [⟨(some 6), none, .move (.c (.bool false))⟩] (some [6]))
  .ret)
  .skip))
 (.seq (.seq (.ops [⟨(some 27), none, .move (.t 1)⟩,
   ⟨(some 28), none, .calcB .len [9] 3 [(.t 27)]⟩,
   ⟨(some 29), none, .bin .gtr 3 (.t 28) (.c (.int .i64 100))⟩] (some [0, 1, 2, 29]))
 (.cond (.t 29)
  (.seq (.ops [⟨(some 6), none, .move (.c (.bool true))⟩] (some [6]))
  .ret)
  .skip))
 (.seq (.ops [⟨(some 30), none, .call (.c (.func (.func 26) #[] #[])) []⟩,
   ⟨(some 7), none, .move (.t 30)⟩] (some [0, 1, 2, 7]))
 (.seq (.ops [⟨(some 31), none, .build [(.slice none 0 0), (.slice none 0 0)] [(0, 1), (1, 1)] []⟩,
   ⟨(some 32), none, .box (.t 31)⟩,
   ⟨(some 8), none, .move (.t 32)⟩] (some [0, 1, 2, 7, 8]))
 (.seq (.seq (.ops [⟨(some 9), none, .move (.c (.int .i64 0))⟩] (some [0, 1, 2, 7, 8, 9]))
 (.block 0
  (.loop
   (.seq (.seq (.ops [⟨(some 33), none, .move (.t 9)⟩,
     ⟨(some 34), none, .move (.t 0)⟩,
     ⟨(some 35), none, .len (.t 34)⟩,
     ⟨(some 36), none, .bin .lss 3 (.t 33) (.t 35)⟩,
     ⟨(some 37), none, .move (.t 36)⟩,
     ⟨(some 38), (some (37, true)), .move (.t 9)⟩,
     ⟨(some 39), (some (37, true)), .bin .lss 3 (.t 38) (.c (.int .i64 300))⟩,
     ⟨(some 40), none, .pick (.t 37) (.t 39) (.c (.bool false))⟩] (some [0, 1, 2, 7, 8, 9, 40]))
   (.cond (.t 40)
    .skip
    (.exit 0)))
   (.seq (.block 1
    (.seq (.ops [⟨(some 43), none, .move (.t 0)⟩,
      ⟨(some 44), none, .move (.t 9)⟩,
      ⟨(some 45), none, .indexAddr 3 (.t 43) (.t 44)⟩,
      ⟨(some 46), none, .load true 3 (.t 45)⟩,
      ⟨(some 10), none, .alloc [(.int .i64 0), (.string .empty), (.int .i64 0)]⟩,
      ⟨none, none, .store 3 (.t 10) (.t 46)⟩] (some [0, 1, 2, 7, 8, 9, 10]))
    (.seq (.seq (.ops [⟨(some 47), none, .fieldAddr 1 (.t 10)⟩,
      ⟨(some 48), none, .load false 1 (.t 47)⟩,
      ⟨(some 49), none, .calcB .len [9] 3 [(.t 48)]⟩,
      ⟨(some 50), none, .bin .gtr 3 (.t 49) (.c (.int .i64 100))⟩] (some [0, 1, 2, 7, 8, 9, 10, 50]))
    (.cond (.t 50)
     (.exit 1)
     .skip))
    (.seq (.seq (.ops [⟨(some 51), none, .fieldAddr 0 (.t 10)⟩,
      ⟨(some 52), none, .load false 1 (.t 51)⟩,
      ⟨(some 53), none, .bin .eql 3 (.t 52) (.c (.int .i64 1))⟩] (some [0, 1, 2, 7, 8, 9, 10, 53]))
    (.cond (.t 53)
     (.seq (.ops [⟨(some 55), none, .move (.t 7)⟩,
       ⟨(some 56), none, .fieldAddr 1 (.t 10)⟩,
       ⟨(some 57), none, .load false 1 (.t 56)⟩,
       ⟨(some 58), none, .fieldAddr 2 (.t 10)⟩,
       ⟨(some 59), none, .load false 1 (.t 58)⟩,
       ⟨(some 60), none, .call (.c (.func (.func 27) #[] #[])) [(.t 55), (.t 57), (.t 59)]⟩,
       ⟨(some 54), none, .move (.t 60)⟩,
       ⟨(some 61), none, .extract (.t 54) 0⟩,
       ⟨(some 62), none, .extract (.t 54) 1⟩,
       ⟨(some 63), none, .extract (.t 54) 2⟩,
       ⟨(some 11), none, .move (.t 61)⟩,
       ⟨(some 12), none, .move (.t 62)⟩,
       ⟨(some 13), none, .move (.t 63)⟩] (some [0, 1, 2, 7, 8, 9, 10, 11, 12, 13]))
     (.seq (.ops [⟨(some 65), none, .move (.t 8)⟩,
       ⟨(some 66), none, .fieldAddr 1 (.t 10)⟩,
       ⟨(some 67), none, .load false 1 (.t 66)⟩,
       ⟨(some 68), none, .fieldAddr 2 (.t 10)⟩,
       ⟨(some 69), none, .load false 1 (.t 68)⟩,
       ⟨(some 70), none, .call (.c (.func (.func 32) #[] #[])) [(.t 65), (.t 67), (.t 69)]⟩,
       ⟨(some 64), none, .move (.t 70)⟩,
       ⟨(some 71), none, .extract (.t 64) 0⟩,
       ⟨(some 72), none, .extract (.t 64) 1⟩,
       ⟨(some 14), none, .move (.t 71)⟩,
       ⟨(some 15), none, .move (.t 72)⟩] (some [0, 1, 2, 7, 8, 9, 10, 11, 12, 13, 14, 15]))
     (.seq (.ops [⟨(some 73), none, .move (.t 11)⟩,
       ⟨(some 74), none, .move (.t 14)⟩,
       ⟨(some 75), none, .bin .neq 3 (.t 73) (.t 74)⟩,
       ⟨(some 76), none, .move (.t 75)⟩,
       ⟨(some 77), (some (76, false)), .move (.t 12)⟩,
       ⟨(some 78), (some (76, false)), .move (.t 15)⟩,
       ⟨(some 79), (some (76, false)), .bin .neq 4 (.t 77) (.t 78)⟩,
       ⟨(some 80), none, .pick (.t 76) (.c (.bool true)) (.t 79)⟩,
       ⟨(some 81), none, .move (.t 80)⟩,
       ⟨(some 82), (some (81, false)), .move (.t 13)⟩,
       ⟨(some 83), (some (81, false)), .bin .neq 39 (.t 82) (.c (.int .i64 0))⟩,
       ⟨(some 84), none, .pick (.t 81) (.c (.bool true)) (.t 83)⟩] (some [0, 1, 2, 7, 8, 9, 10, 84]))
     (.cond (.t 84)
      (.seq (.ops [⟨(some 6), none, .move (.c (.bool false))⟩] (some [6]))
      .ret)
      .skip))))
     (.seq (.ops [⟨(some 85), none, .fieldAddr 0 (.t 10)⟩,
       ⟨(some 86), none, .load false 1 (.t 85)⟩,
       ⟨(some 87), none, .bin .eql 3 (.t 86) (.c (.int .i64 2))⟩] (some [0, 1, 2, 7, 8, 9, 10, 87]))
     (.cond (.t 87)
      (.seq (.ops [⟨(some 89), none, .move (.t 7)⟩,
        ⟨(some 90), none, .fieldAddr 1 (.t 10)⟩,
        ⟨(some 91), none, .load false 1 (.t 90)⟩,
        ⟨(some 92), none, .call (.c (.func (.func 30) #[] #[])) [(.t 89), (.t 91)]⟩,
        ⟨(some 88), none, .move (.t 92)⟩,
        ⟨(some 93), none, .extract (.t 88) 0⟩,
        ⟨(some 94), none, .extract (.t 88) 1⟩,
        ⟨(some 16), none, .move (.t 93)⟩,
        ⟨(some 17), none, .move (.t 94)⟩] (some [0, 1, 2, 7, 8, 9, 10, 16, 17]))
      (.seq (.ops [⟨(some 96), none, .move (.t 8)⟩,
        ⟨(some 97), none, .fieldAddr 1 (.t 10)⟩,
        ⟨(some 98), none, .load false 1 (.t 97)⟩,
        ⟨(some 99), none, .call (.c (.func (.func 33) #[] #[])) [(.t 96), (.t 98)]⟩,
        ⟨(some 95), none, .move (.t 99)⟩,
        ⟨(some 100), none, .extract (.t 95) 0⟩,
        ⟨(some 101), none, .extract (.t 95) 1⟩,
        ⟨(some 18), none, .move (.t 100)⟩,
        ⟨(some 19), none, .move (.t 101)⟩] (some [0, 1, 2, 7, 8, 9, 10, 16, 17, 18, 19]))
      (.seq (.ops [⟨(some 102), none, .move (.t 16)⟩,
        ⟨(some 103), none, .move (.t 18)⟩,
        ⟨(some 104), none, .bin .neq 3 (.t 102) (.t 103)⟩,
        ⟨(some 105), none, .move (.t 104)⟩,
        ⟨(some 106), (some (105, false)), .move (.t 17)⟩,
        ⟨(some 107), (some (105, false)), .move (.t 19)⟩,
        ⟨(some 108), (some (105, false)), .bin .neq 4 (.t 106) (.t 107)⟩,
        ⟨(some 109), none, .pick (.t 105) (.c (.bool true)) (.t 108)⟩] (some [0, 1, 2, 7, 8, 9, 10, 109]))
      (.cond (.t 109)
       (.seq (.ops [⟨(some 6), none, .move (.c (.bool false))⟩] (some [6]))
       .ret)
       .skip))))
      .skip))))
    (.seq (.ops [⟨(some 110), none, .move (.t 7)⟩,
      ⟨(some 111), none, .move (.t 8)⟩,
      ⟨(some 112), none, .fieldAddr 1 (.t 10)⟩,
      ⟨(some 113), none, .load false 1 (.t 112)⟩,
      ⟨(some 114), none, .call (.c (.func (.func 34) #[] #[])) [(.t 110), (.t 111), (.t 113)]⟩,
      ⟨(some 115), none, .un .not (.t 114)⟩,
      ⟨(some 116), none, .move (.t 115)⟩,
      ⟨(some 117), (some (116, false)), .move (.t 7)⟩,
      ⟨(some 118), (some (116, false)), .move (.t 8)⟩,
      ⟨(some 119), (some (116, false)), .move (.t 1)⟩,
      ⟨(some 120), (some (116, false)), .call (.c (.func (.func 34) #[] #[])) [(.t 117), (.t 118), (.t 119)]⟩,
      ⟨(some 121), (some (116, false)), .un .not (.t 120)⟩,
      ⟨(some 122), none, .pick (.t 116) (.c (.bool true)) (.t 121)⟩] (some [0, 1, 2, 7, 8, 9, 122]))
    (.cond (.t 122)
     (.seq (.ops [⟨(some 6), none, .move (.c (.bool false))⟩] (some [6]))
     .ret)
     .skip))))))
   (.ops [⟨(some 41), none, .move (.t 9)⟩,
     ⟨(some 42), none, .bin .add 3 (.t 41) (.c (.int .i64 1))⟩,
     ⟨(some 9), none, .move (.t 42)⟩] (some [0, 1, 2, 7, 8, 9])))))))
 (.seq (.ops [⟨(some 123), none, .move (.t 7)⟩,
   ⟨(some 124), none, .move (.t 1)⟩,
   ⟨(some 125), none, .move (.t 2)⟩,
   ⟨(some 126), none, .call (.c (.func (.func 28) #[] #[])) [(.t 123), (.t 124), (.t 125)]⟩,
   ⟨(some 20), none, .move (.t 126)⟩] (some [1, 2, 8, 20]))
 (.seq (.ops [⟨(some 128), none, .move (.t 8)⟩,
   ⟨(some 129), none, .move (.t 1)⟩,
   ⟨(some 130), none, .call (.c (.func (.func 35) #[] #[])) [(.t 128), (.t 129)]⟩,
   ⟨(some 127), none, .move (.t 130)⟩,
   ⟨(some 131), none, .extract (.t 127) 0⟩,
   ⟨(some 132), none, .extract (.t 127) 1⟩,
   ⟨(some 21), none, .move (.t 131)⟩,
   ⟨(some 22), none, .move (.t 132)⟩] (some [2, 8, 20, 21]))
 (.seq (.ops [⟨(some 23), none, .move (.c (.int .i64 0))⟩] (some [2, 8, 20, 21, 23]))
 (.seq (.seq (.ops [⟨(some 133), none, .move (.t 2)⟩,
   ⟨(some 134), none, .bin .gtr 3 (.t 133) (.c (.int .i64 0))⟩] (some [2, 8, 20, 21, 23, 134]))
 (.cond (.t 134)
  (.ops [⟨(some 135), none, .move (.t 2)⟩,
    ⟨(some 136), none, .move (.t 8)⟩,
    ⟨(some 137), none, .nilCheck (.t 136)⟩,
    ⟨(some 138), none, .fieldAddr 0 (.t 137)⟩,
    ⟨(some 139), none, .load false 1 (.t 138)⟩,
    ⟨(some 140), none, .len (.t 139)⟩,
    ⟨(some 141), none, .move (.t 21)⟩,
    ⟨(some 142), none, .bin .sub 3 (.t 140) (.t 141)⟩,
    ⟨(some 143), none, .calcB .min [3, 3] 3 [(.t 135), (.t 142)]⟩,
    ⟨(some 23), none, .move (.t 143)⟩] (some [8, 20, 21, 23]))
  .skip))
 (.seq (.seq (.ops [⟨(some 144), none, .move (.t 20)⟩,
   ⟨(some 145), none, .len (.t 144)⟩,
   ⟨(some 146), none, .move (.t 23)⟩,
   ⟨(some 147), none, .bin .neq 3 (.t 145) (.t 146)⟩] (some [8, 20, 21, 23, 147]))
 (.cond (.t 147)
  (.seq (.ops [⟨(some 6), none, .move (.c (.bool false))⟩] (some [6]))
  .ret)
  .skip))
 (.seq (.seq (.ops [⟨(some 24), none, .move (.c (.int .i64 0))⟩] (some [8, 20, 21, 23, 24]))
 (.block 2
  (.loop
   (.seq (.seq (.ops [⟨(some 148), none, .move (.t 24)⟩,
     ⟨(some 149), none, .move (.t 23)⟩,
     ⟨(some 150), none, .bin .lss 3 (.t 148) (.t 149)⟩] (some [8, 20, 21, 23, 24, 150]))
   (.cond (.t 150)
    .skip
    (.exit 2)))
   (.seq (.block 3
    (.seq (.opsr [⟨(some 153), none, .move (.t 20)⟩,
      ⟨(some 154), none, .move (.t 24)⟩,
      ⟨(some 155), none, .indexAddr 1 (.t 153) (.t 154)⟩,
      ⟨(some 156), none, .load false 1 (.t 155)⟩,
      ⟨(some 157), none, .move (.t 8)⟩,
      ⟨(some 158), none, .nilCheck (.t 157)⟩,
      ⟨(some 159), none, .fieldAddr 0 (.t 158)⟩,
      ⟨(some 160), none, .load false 1 (.t 159)⟩,
      ⟨(some 161), none, .move (.t 21)⟩,
      ⟨(some 162), none, .move (.t 24)⟩,
      ⟨(some 163), none, .bin .add 3 (.t 161) (.t 162)⟩,
      ⟨(some 164), none, .indexAddr 1 (.t 160) (.t 163)⟩,
      ⟨(some 165), none, .load false 1 (.t 164)⟩,
      ⟨(some 166), none, .bin .neq 9 (.t 156) (.t 165)⟩] (some [8, 20, 21, 23, 24, 166]))
    (.cond (.t 166)
     (.seq (.ops [⟨(some 6), none, .move (.c (.bool false))⟩] (some [6]))
     .ret)
     .skip)))
   (.ops [⟨(some 151), none, .move (.t 24)⟩,
     ⟨(some 152), none, .bin .add 3 (.t 151) (.c (.int .i64 1))⟩,
     ⟨(some 24), none, .move (.t 152)⟩] (some [8, 20, 21, 23, 24])))))))
 (.seq (.ops [⟨(some 6), none, .move (.c (.bool true))⟩] (some [6]))
 .ret))))))))))))), [.tmp 6]⟩

theorem is7 : FnIs Try.prog 7 x7 := ⟨Try.f7, _, Try.func7, by kernel_rfl, rfl, by kernel_rfl, by decide, by kernel_rfl⟩

/-- cloisonne/cloisonnelaw08.awake -/
def x25 : XDecl := .code ⟨0, 
 (.seq (.ops [⟨(some 0), none, .move (.c (.bool false))⟩] (some []))
 (.seq (.ops [⟨(some 3), none, .call (.c (.func (.func 26) #[] #[])) []⟩,
   ⟨(some 1), none, .move (.t 3)⟩] (some [1]))
 (.seq (.seq (.ops [⟨(some 2), none, .move (.c (.int .i64 0))⟩] (some [1, 2]))
 (.block 0
  (.loop
   (.seq (.seq (.ops [⟨(some 4), none, .move (.t 2)⟩,
     ⟨(some 5), none, .bin .lss 3 (.t 4) (.c (.int .i64 5))⟩] (some [1, 2, 5]))
   (.cond (.t 5)
    .skip
    (.exit 0)))
   (.seq (.block 1
    (.ops [⟨(some 8), none, .move (.t 1)⟩,
      ⟨(some 9), none, .move (.t 2)⟩,
      ⟨(some 10), none, .bin .add 3 (.c (.int .i64 97)) (.t 9)⟩,
      ⟨(some 11), none, .conv 3 5 (.t 10)⟩,
      ⟨(some 12), none, .buildSlice [(.int .u8 0)] 1 1 [(0, (.t 11))]⟩,
      ⟨(some 13), none, .bstr (.t 12)⟩,
      ⟨(some 14), none, .move (.t 2)⟩,
      ⟨(some 15), none, .call (.c (.func (.func 27) #[] #[])) [(.t 8), (.t 13), (.t 14)]⟩] (some [1, 2])))
   (.ops [⟨(some 6), none, .move (.t 2)⟩,
     ⟨(some 7), none, .bin .add 3 (.t 6) (.c (.int .i64 1))⟩,
     ⟨(some 2), none, .move (.t 7)⟩] (some [1, 2])))))))
 (.seq (.ops [⟨(some 16), none, .move (.t 1)⟩,
   ⟨(some 17), none, .call (.c (.func (.func 44) #[] #[])) [(.t 16)]⟩,
   ⟨(some 18), none, .bin .eql 3 (.t 17) (.c (.int .i64 2))⟩,
   ⟨(some 19), none, .move (.t 18)⟩,
   ⟨(some 20), (some (19, true)), .move (.t 1)⟩,
   ⟨(some 21), (some (19, true)), .call (.c (.func (.func 45) #[] #[])) [(.t 20)]⟩,
   ⟨(some 22), (some (19, true)), .bin .eql 3 (.t 21) (.c (.int .i64 3))⟩,
   ⟨(some 23), none, .pick (.t 19) (.t 22) (.c (.bool false))⟩,
   ⟨(some 0), none, .move (.t 23)⟩] (some [0]))
 .ret)))), [.tmp 0]⟩

theorem is25 : FnIs Try.prog 25 x25 := ⟨Try.f25, _, Try.func25, by kernel_rfl, rfl, by kernel_rfl, by decide, by kernel_rfl⟩

/-- cloisonne/tree.New -/
def x26 : XDecl := .code ⟨0, 
 (.seq (.ops [⟨(some 0), none, .move (.c (.pointer none))⟩] (some []))
 (.seq (.ops [⟨(some 1), none, .build [(.slice none 0 0), (.slice none 0 0), (.int .i64 0), (.int .i64 0)] [(0, 1), (1, 1), (2, 1), (3, 1)] [(2, (.c (.int .i64 (-1))))]⟩,
   ⟨(some 2), none, .box (.t 1)⟩,
   ⟨(some 0), none, .move (.t 2)⟩] (some [0]))
 .ret)), [.tmp 0]⟩

theorem is26 : FnIs Try.prog 26 x26 := ⟨Try.f26, _, Try.func26, by kernel_rfl, rfl, by kernel_rfl, by decide, by kernel_rfl⟩

/-- (*cloisonne/tree.Tree).Put -/
def x27 : XDecl := .code ⟨3, 
 (.seq (.ops [⟨(some 6), none, .move (.c (.int .i64 0))⟩,
   ⟨(some 7), none, .move (.c (.bool false))⟩,
   ⟨(some 8), none, .move (.c (.int .i64 0))⟩] (some [0, 1, 2]))
 (.seq (.seq (.ops [⟨(some 16), none, .move (.t 0)⟩,
   ⟨(some 17), none, .isNil .ptr false (.t 16)⟩] (some [0, 1, 2, 17]))
 (.cond (.t 17)
  (.seq (.ops [⟨(some 6), none, .move (.c (.int .i64 0))⟩,
    ⟨(some 7), none, .move (.c (.bool false))⟩,
    ⟨(some 8), none, .move (.c (.int .i64 2))⟩] (some [6, 7, 8]))
  .ret)
  .skip))
 (.seq (.seq (.ops [⟨(some 19), none, .move (.t 0)⟩,
   ⟨(some 20), none, .move (.t 1)⟩,
   ⟨(some 21), none, .call (.c (.func (.func 46) #[] #[])) [(.t 19), (.t 20)]⟩,
   ⟨(some 18), none, .move (.t 21)⟩,
   ⟨(some 22), none, .extract (.t 18) 0⟩,
   ⟨(some 23), none, .extract (.t 18) 1⟩,
   ⟨(some 24), none, .extract (.t 18) 2⟩,
   ⟨(some 9), none, .move (.t 22)⟩,
   ⟨(some 10), none, .move (.t 23)⟩,
   ⟨(some 11), none, .move (.t 24)⟩] (some [0, 1, 2, 9, 10, 11]))
 (.seq (.ops [⟨(some 25), none, .move (.t 11)⟩] (some [0, 1, 2, 9, 10, 25]))
 (.cond (.t 25)
  (.seq (.ops [⟨(some 26), none, .move (.t 9)⟩,
    ⟨(some 27), none, .nilCheck (.t 26)⟩,
    ⟨(some 28), none, .fieldAddr 1 (.t 27)⟩,
    ⟨(some 29), none, .load false 1 (.t 28)⟩,
    ⟨(some 30), none, .move (.t 10)⟩,
    ⟨(some 31), none, .indexAddr 1 (.t 29) (.t 30)⟩,
    ⟨(some 32), none, .load false 1 (.t 31)⟩,
    ⟨(some 12), none, .move (.t 32)⟩] (some [2, 9, 10, 12]))
  (.seq (.ops [⟨(some 33), none, .move (.t 9)⟩,
    ⟨(some 34), none, .nilCheck (.t 33)⟩,
    ⟨(some 35), none, .fieldAddr 1 (.t 34)⟩,
    ⟨(some 36), none, .load false 1 (.t 35)⟩,
    ⟨(some 37), none, .move (.t 10)⟩,
    ⟨(some 38), none, .move (.t 2)⟩,
    ⟨(some 39), none, .indexAddr 1 (.t 36) (.t 37)⟩,
    ⟨none, none, .store 1 (.t 39) (.t 38)⟩] (some [12]))
  (.seq (.ops [⟨(some 40), none, .move (.t 12)⟩,
    ⟨(some 6), none, .move (.t 40)⟩,
    ⟨(some 7), none, .move (.c (.bool true))⟩,
    ⟨(some 8), none, .move (.c (.int .i64 0))⟩] (some [6, 7, 8]))
  .ret)))
  .skip)))
 (.seq (.seq (.ops [⟨(some 41), none, .move (.t 0)⟩,
   ⟨(some 42), none, .nilCheck (.t 41)⟩,
   ⟨(some 43), none, .fieldAddr 3 (.t 42)⟩,
   ⟨(some 44), none, .load false 1 (.t 43)⟩,
   ⟨(some 45), none, .bin .geq 3 (.t 44) (.c (.int .i64 100000))⟩] (some [0, 1, 2, 45]))
 (.cond (.t 45)
  (.seq (.ops [⟨(some 6), none, .move (.c (.int .i64 0))⟩,
    ⟨(some 7), none, .move (.c (.bool false))⟩,
    ⟨(some 8), none, .move (.c (.int .i64 5))⟩] (some [6, 7, 8]))
  .ret)
  .skip))
 (.seq (.ops [⟨(some 46), none, .move (.t 0)⟩,
   ⟨(some 47), none, .nilCheck (.t 46)⟩,
   ⟨(some 48), none, .fieldAddr 3 (.t 47)⟩,
   ⟨(some 49), none, .load false 1 (.t 48)⟩,
   ⟨(some 50), none, .bin .add 3 (.t 49) (.c (.int .i64 1))⟩,
   ⟨(some 51), none, .nilCheck (.t 46)⟩,
   ⟨(some 52), none, .fieldAddr 3 (.t 51)⟩,
   ⟨none, none, .store 1 (.t 52) (.t 50)⟩] (some [0, 1, 2]))
 (.seq (.seq (.ops [⟨(some 53), none, .move (.t 0)⟩,
   ⟨(some 54), none, .nilCheck (.t 53)⟩,
   ⟨(some 55), none, .fieldAddr 2 (.t 54)⟩,
   ⟨(some 56), none, .load false 1 (.t 55)⟩,
   ⟨(some 57), none, .bin .lss 3 (.t 56) (.c (.int .i64 0))⟩] (some [0, 1, 2, 57]))
 (.cond (.t 57)
  (.seq (.ops [⟨(some 58), none, .move (.t 0)⟩,
    ⟨(some 59), none, .move (.t 0)⟩,
    ⟨(some 60), none, .move (.t 1)⟩,
    ⟨(some 61), none, .buildSlice [(.string .empty)] 1 1 [(0, (.t 60))]⟩,
    ⟨(some 62), none, .move (.t 2)⟩,
    ⟨(some 63), none, .buildSlice [(.int .i64 0)] 1 1 [(0, (.t 62))]⟩,
    ⟨(some 64), none, .build [(.slice none 0 0), (.slice none 0 0), (.slice none 0 0)] [(0, 1), (1, 1), (2, 1)] [(0, (.t 61)), (1, (.t 63))]⟩,
    ⟨(some 65), none, .call (.c (.func (.func 47) #[] #[])) [(.t 59), (.t 64)]⟩,
    ⟨(some 66), none, .nilCheck (.t 58)⟩,
    ⟨(some 67), none, .fieldAddr 2 (.t 66)⟩,
    ⟨none, none, .store 1 (.t 67) (.t 65)⟩] (some []))
  (.seq (.ops [⟨(some 6), none, .move (.c (.int .i64 0))⟩,
    ⟨(some 7), none, .move (.c (.bool false))⟩,
    ⟨(some 8), none, .move (.c (.int .i64 0))⟩] (some [6, 7, 8]))
  .ret))
  .skip))
 (.seq (.ops [⟨(some 68), none, .move (.t 0)⟩,
   ⟨(some 69), none, .move (.t 0)⟩,
   ⟨(some 70), none, .nilCheck (.t 69)⟩,
   ⟨(some 71), none, .fieldAddr 2 (.t 70)⟩,
   ⟨(some 72), none, .load false 1 (.t 71)⟩,
   ⟨(some 73), none, .move (.t 1)⟩,
   ⟨(some 74), none, .move (.t 2)⟩,
   ⟨(some 75), none, .call (.c (.func (.func 48) #[] #[])) [(.t 68), (.t 72), (.t 73), (.t 74)]⟩] (some [0]))
 (.seq (.seq (.opsd [(0, 0, ⟨(some 76), none, .move (.t 0)⟩),
   (1, 1, ⟨(some 77), none, .nilCheck (.t 76)⟩),
   (2, 3, ⟨(some 78), none, .fieldAddr 0 (.t 77)⟩),
   (3, 7, ⟨(some 79), none, .load false 1 (.t 78)⟩),
   (4, 0, ⟨(some 80), none, .move (.t 0)⟩),
   (5, 16, ⟨(some 81), none, .nilCheck (.t 80)⟩),
   (6, 48, ⟨(some 82), none, .fieldAddr 2 (.t 81)⟩),
   (7, 112, ⟨(some 83), none, .load false 1 (.t 82)⟩),
   (8, 255, ⟨(some 84), none, .indexAddr 3 (.t 79) (.t 83)⟩),
   (9, 511, ⟨(some 85), none, .call (.c (.func (.func 49) #[] #[])) [(.t 84)]⟩),
   (10, 1023, ⟨(some 86), none, .bin .gtr 3 (.t 85) (.c (.int .i64 4))⟩)] (some [0, 86]))
 (.cond (.t 86)
  (.seq (.ops [⟨(some 87), none, .move (.t 0)⟩,
    ⟨(some 88), none, .nilCheck (.t 87)⟩,
    ⟨(some 89), none, .fieldAddr 2 (.t 88)⟩,
    ⟨(some 90), none, .load false 1 (.t 89)⟩,
    ⟨(some 13), none, .move (.t 90)⟩] (some [0, 13]))
  (.seq (.ops [⟨(some 92), none, .move (.t 0)⟩,
    ⟨(some 93), none, .move (.t 13)⟩,
    ⟨(some 94), none, .call (.c (.func (.func 50) #[] #[])) [(.t 92), (.t 93)]⟩,
    ⟨(some 91), none, .move (.t 94)⟩,
    ⟨(some 95), none, .extract (.t 91) 0⟩,
    ⟨(some 96), none, .extract (.t 91) 1⟩,
    ⟨(some 14), none, .move (.t 95)⟩,
    ⟨(some 15), none, .move (.t 96)⟩] (some [0, 13, 14, 15]))
  (.ops [⟨(some 97), none, .move (.t 0)⟩,
    ⟨(some 98), none, .move (.t 0)⟩,
    ⟨(some 99), none, .move (.t 15)⟩,
    ⟨(some 100), none, .buildSlice [(.string .empty)] 1 1 [(0, (.t 99))]⟩,
    ⟨(some 101), none, .move (.t 13)⟩,
    ⟨(some 102), none, .move (.t 14)⟩,
    ⟨(some 103), none, .buildSlice [(.int .i64 0)] 1 2 [(0, (.t 101)), (1, (.t 102))]⟩,
    ⟨(some 104), none, .build [(.slice none 0 0), (.slice none 0 0), (.slice none 0 0)] [(0, 1), (1, 1), (2, 1)] [(0, (.t 100)), (2, (.t 103))]⟩,
    ⟨(some 105), none, .call (.c (.func (.func 47) #[] #[])) [(.t 98), (.t 104)]⟩,
    ⟨(some 106), none, .nilCheck (.t 97)⟩,
    ⟨(some 107), none, .fieldAddr 2 (.t 106)⟩,
    ⟨none, none, .store 1 (.t 107) (.t 105)⟩] (some []))))
  .skip))
 (.seq (.ops [⟨(some 6), none, .move (.c (.int .i64 0))⟩,
   ⟨(some 7), none, .move (.c (.bool false))⟩,
   ⟨(some 8), none, .move (.c (.int .i64 0))⟩] (some [6, 7, 8]))
 .ret))))))))), [.tmp 6, .tmp 7, .tmp 8]⟩

theorem is27 : FnIs Try.prog 27 x27 := ⟨Try.f27, _, Try.func27, by kernel_rfl, rfl, by kernel_rfl, by decide, by kernel_rfl⟩

/-- (*cloisonne/tree.Tree).Keys -/
def x28 : XDecl := .code ⟨3, 
 (.seq (.ops [⟨(some 6), none, .move (.c (.slice none 0 0))⟩] (some [0, 1, 2]))
 (.seq (.ops [⟨(some 7), none, .move (.c (.slice none 0 0))⟩] (some [0, 1, 2, 7]))
 (.seq (.ops [⟨(some 12), none, .move (.t 0)⟩,
   ⟨(some 13), none, .move (.t 1)⟩,
   ⟨(some 14), none, .call (.c (.func (.func 29) #[] #[])) [(.t 12), (.t 13)]⟩,
   ⟨(some 11), none, .move (.t 14)⟩,
   ⟨(some 15), none, .extract (.t 11) 0⟩,
   ⟨(some 16), none, .extract (.t 11) 1⟩,
   ⟨(some 17), none, .extract (.t 11) 2⟩,
   ⟨(some 8), none, .move (.t 15)⟩,
   ⟨(some 9), none, .move (.t 16)⟩,
   ⟨(some 10), none, .move (.t 17)⟩] (some [0, 2, 7, 8, 10]))
 (.seq (.block 0
  (.loop
   (.seq (.seq (.ops [⟨(some 18), none, .move (.t 10)⟩,
     ⟨(some 19), none, .move (.t 18)⟩,
     ⟨(some 20), (some (19, true)), .move (.t 7)⟩,
     ⟨(some 21), (some (19, true)), .len (.t 20)⟩,
     ⟨(some 22), (some (19, true)), .move (.t 2)⟩,
     ⟨(some 23), (some (19, true)), .bin .lss 3 (.t 21) (.t 22)⟩,
     ⟨(some 24), none, .pick (.t 19) (.t 23) (.c (.bool false))⟩] (some [0, 2, 7, 8, 24]))
   (.cond (.t 24)
    .skip
    (.exit 0)))
   (.block 1
    (.seq (.ops [⟨(some 25), none, .move (.t 7)⟩,
      ⟨(some 26), none, .move (.t 8)⟩,
      ⟨(some 27), none, .buildSlice [(.string .empty)] 1 1 [(0, (.t 26))]⟩,
      ⟨(some 28), none, .append 1 16 [(.string .empty)] (.t 25) (.t 27)⟩,
      ⟨(some 7), none, .move (.t 28)⟩] (some [0, 2, 7, 8]))
    (.ops [⟨(some 30), none, .move (.t 0)⟩,
      ⟨(some 31), none, .move (.t 8)⟩,
      ⟨(some 32), none, .call (.c (.func (.func 31) #[] #[])) [(.t 30), (.t 31)]⟩,
      ⟨(some 29), none, .move (.t 32)⟩,
      ⟨(some 33), none, .extract (.t 29) 0⟩,
      ⟨(some 34), none, .extract (.t 29) 1⟩,
      ⟨(some 35), none, .extract (.t 29) 2⟩,
      ⟨(some 8), none, .move (.t 33)⟩,
      ⟨(some 10), none, .move (.t 35)⟩] (some [0, 2, 7, 8, 10])))))))
 (.seq (.ops [⟨(some 36), none, .move (.t 7)⟩,
   ⟨(some 6), none, .move (.t 36)⟩] (some [6]))
 .ret))))), [.tmp 6]⟩

theorem is28 : FnIs Try.prog 28 x28 := ⟨Try.f28, _, Try.func28, by kernel_rfl, rfl, by kernel_rfl, by decide, by kernel_rfl⟩

/-- (*cloisonne/tree.Tree).Seek -/
def x29 : XDecl := .code ⟨2, 
 (.seq (.ops [⟨(some 4), none, .move (.c (.string .empty))⟩,
   ⟨(some 5), none, .move (.c (.int .i64 0))⟩,
   ⟨(some 6), none, .move (.c (.bool false))⟩] (some [0, 1]))
 (.seq (.seq (.ops [⟨(some 7), none, .move (.t 0)⟩,
   ⟨(some 8), none, .call (.c (.func (.func 51) #[] #[])) [(.t 7)]⟩,
   ⟨(some 9), none, .un .not (.t 8)⟩] (some [0, 1, 9]))
 (.cond (.t 9)
  (.seq (.ops [⟨(some 4), none, .move (.c (.string .empty))⟩,
    ⟨(some 5), none, .move (.c (.int .i64 0))⟩,
    ⟨(some 6), none, .move (.c (.bool false))⟩] (some [4, 5, 6]))
  .ret)
  .skip))
 (.seq (.ops [⟨(some 10), none, .move (.t 0)⟩,
   ⟨(some 11), none, .move (.t 0)⟩,
   ⟨(some 12), none, .nilCheck (.t 11)⟩,
   ⟨(some 13), none, .fieldAddr 2 (.t 12)⟩,
   ⟨(some 14), none, .load false 1 (.t 13)⟩,
   ⟨(some 15), none, .move (.t 1)⟩,
   ⟨(some 16), none, .call (.c (.func (.func 52) #[] #[])) [(.t 10), (.t 14), (.t 15), (.c (.bool false))]⟩,
   ⟨(some 17), none, .extract (.t 16) 0⟩,
   ⟨(some 18), none, .extract (.t 16) 1⟩,
   ⟨(some 19), none, .extract (.t 16) 2⟩,
   ⟨(some 4), none, .move (.t 17)⟩,
   ⟨(some 5), none, .move (.t 18)⟩,
   ⟨(some 6), none, .move (.t 19)⟩] (some [4, 5, 6]))
 .ret))), [.tmp 4, .tmp 5, .tmp 6]⟩

theorem is29 : FnIs Try.prog 29 x29 := ⟨Try.f29, _, Try.func29, by kernel_rfl, rfl, by kernel_rfl, by decide, by kernel_rfl⟩

/-- (*cloisonne/tree.Tree).Del -/
def x30 : XDecl := .code ⟨2, 
 (.seq (.ops [⟨(some 4), none, .move (.c (.int .i64 0))⟩,
   ⟨(some 5), none, .move (.c (.bool false))⟩] (some [0, 1]))
 (.seq (.ops [⟨(some 10), none, .move (.t 0)⟩,
   ⟨(some 11), none, .move (.t 1)⟩,
   ⟨(some 12), none, .call (.c (.func (.func 53) #[] #[])) [(.t 10), (.t 11)]⟩,
   ⟨(some 9), none, .move (.t 12)⟩,
   ⟨(some 13), none, .extract (.t 9) 0⟩,
   ⟨(some 14), none, .extract (.t 9) 1⟩,
   ⟨(some 6), none, .move (.t 13)⟩,
   ⟨(some 7), none, .move (.t 14)⟩] (some [0, 1, 6, 7]))
 (.seq (.seq (.ops [⟨(some 15), none, .move (.t 7)⟩,
   ⟨(some 16), none, .un .not (.t 15)⟩] (some [0, 1, 6, 16]))
 (.cond (.t 16)
  (.seq (.ops [⟨(some 4), none, .move (.c (.int .i64 0))⟩,
    ⟨(some 5), none, .move (.c (.bool false))⟩] (some [4, 5]))
  .ret)
  .skip))
 (.seq (.ops [⟨(some 17), none, .move (.t 0)⟩,
   ⟨(some 18), none, .nilCheck (.t 17)⟩,
   ⟨(some 19), none, .fieldAddr 3 (.t 18)⟩,
   ⟨(some 20), none, .load false 1 (.t 19)⟩,
   ⟨(some 21), none, .bin .sub 3 (.t 20) (.c (.int .i64 1))⟩,
   ⟨(some 22), none, .nilCheck (.t 17)⟩,
   ⟨(some 23), none, .fieldAddr 3 (.t 22)⟩,
   ⟨none, none, .store 1 (.t 23) (.t 21)⟩] (some [0, 1, 6]))
 (.seq (.ops [⟨(some 24), none, .move (.t 0)⟩,
   ⟨(some 25), none, .move (.t 0)⟩,
   ⟨(some 26), none, .nilCheck (.t 25)⟩,
   ⟨(some 27), none, .fieldAddr 2 (.t 26)⟩,
   ⟨(some 28), none, .load false 1 (.t 27)⟩,
   ⟨(some 29), none, .move (.t 1)⟩,
   ⟨(some 30), none, .call (.c (.func (.func 54) #[] #[])) [(.t 24), (.t 28), (.t 29)]⟩] (some [0, 6]))
 (.seq (.seq (.opsd [(0, 0, ⟨(some 31), none, .move (.t 0)⟩),
   (1, 1, ⟨(some 32), none, .nilCheck (.t 31)⟩),
   (2, 3, ⟨(some 33), none, .fieldAddr 0 (.t 32)⟩),
   (3, 7, ⟨(some 34), none, .load false 1 (.t 33)⟩),
   (4, 0, ⟨(some 35), none, .move (.t 0)⟩),
   (5, 16, ⟨(some 36), none, .nilCheck (.t 35)⟩),
   (6, 48, ⟨(some 37), none, .fieldAddr 2 (.t 36)⟩),
   (7, 112, ⟨(some 38), none, .load false 1 (.t 37)⟩),
   (8, 255, ⟨(some 39), none, .indexAddr 3 (.t 34) (.t 38)⟩),
   (9, 511, ⟨(some 40), none, .load true 3 (.t 39)⟩),
   (10, 0, ⟨(some 8), none, .alloc [(.slice none 0 0), (.slice none 0 0), (.slice none 0 0)]⟩),
   (11, 2047, ⟨none, none, .store 3 (.t 8) (.t 40)⟩)] (some [0, 6, 8]))
 (.block 0
  (.seq (.ops [⟨(some 42), none, .fieldAddr 2 (.t 8)⟩,
    ⟨(some 43), none, .load false 1 (.t 42)⟩,
    ⟨(some 44), none, .len (.t 43)⟩,
    ⟨(some 45), none, .bin .eql 3 (.t 44) (.c (.int .i64 1))⟩,
    ⟨(some 41), none, .move (.t 45)⟩] (some [0, 6, 8, 41]))
  (.cond (.t 41)
   (.seq (.ops [⟨(some 46), none, .move (.t 0)⟩,
     ⟨(some 47), none, .move (.t 0)⟩,
     ⟨(some 48), none, .nilCheck (.t 47)⟩,
     ⟨(some 49), none, .fieldAddr 2 (.t 48)⟩,
     ⟨(some 50), none, .load false 1 (.t 49)⟩,
     ⟨(some 51), none, .call (.c (.func (.func 55) #[] #[])) [(.t 46), (.t 50)]⟩] (some [0, 6, 8]))
   (.ops [⟨(some 52), none, .move (.t 0)⟩,
     ⟨(some 53), none, .fieldAddr 2 (.t 8)⟩,
     ⟨(some 54), none, .load false 1 (.t 53)⟩,
     ⟨(some 55), none, .indexAddr 1 (.t 54) (.c (.int .i64 0))⟩,
     ⟨(some 56), none, .load false 1 (.t 55)⟩,
     ⟨(some 57), none, .nilCheck (.t 52)⟩,
     ⟨(some 58), none, .fieldAddr 2 (.t 57)⟩,
     ⟨none, none, .store 1 (.t 58) (.t 56)⟩] (some [6])))
   (.seq (.ops [⟨(some 60), none, .call (.c (.func (.func 56) #[] #[])) [(.t 8)]⟩,
     ⟨(some 61), none, .move (.t 60)⟩,
     ⟨(some 62), (some (61, true)), .fieldAddr 0 (.t 8)⟩,
     ⟨(some 63), (some (61, true)), .load false 1 (.t 62)⟩,
     ⟨(some 64), (some (61, true)), .len (.t 63)⟩,
     ⟨(some 65), (some (61, true)), .bin .eql 3 (.t 64) (.c (.int .i64 0))⟩,
     ⟨(some 66), none, .pick (.t 61) (.t 65) (.c (.bool false))⟩,
     ⟨(some 59), none, .move (.t 66)⟩] (some [0, 6, 59]))
   (.cond (.t 59)
    (.seq (.ops [⟨(some 67), none, .move (.t 0)⟩,
      ⟨(some 68), none, .move (.t 0)⟩,
      ⟨(some 69), none, .nilCheck (.t 68)⟩,
      ⟨(some 70), none, .fieldAddr 2 (.t 69)⟩,
      ⟨(some 71), none, .load false 1 (.t 70)⟩,
      ⟨(some 72), none, .call (.c (.func (.func 55) #[] #[])) [(.t 67), (.t 71)]⟩] (some [0, 6]))
    (.ops [⟨(some 73), none, .move (.t 0)⟩,
      ⟨(some 74), none, .nilCheck (.t 73)⟩,
      ⟨(some 75), none, .fieldAddr 2 (.t 74)⟩,
      ⟨none, none, .store 1 (.t 75) (.c (.int .i64 (-1)))⟩] (some [6])))
    .skip))))))
 (.seq (.ops [⟨(some 76), none, .move (.t 6)⟩,
   ⟨(some 4), none, .move (.t 76)⟩,
   ⟨(some 5), none, .move (.c (.bool true))⟩] (some [4, 5]))
 .ret))))))), [.tmp 4, .tmp 5]⟩

theorem is30 : FnIs Try.prog 30 x30 := ⟨Try.f30, _, Try.func30, by kernel_rfl, rfl, by kernel_rfl, by decide, by kernel_rfl⟩

/-- (*cloisonne/tree.Tree).After -/
def x31 : XDecl := .code ⟨2, 
 (.seq (.ops [⟨(some 4), none, .move (.c (.string .empty))⟩,
   ⟨(some 5), none, .move (.c (.int .i64 0))⟩,
   ⟨(some 6), none, .move (.c (.bool false))⟩] (some [0, 1]))
 (.seq (.seq (.ops [⟨(some 7), none, .move (.t 0)⟩,
   ⟨(some 8), none, .call (.c (.func (.func 51) #[] #[])) [(.t 7)]⟩,
   ⟨(some 9), none, .un .not (.t 8)⟩] (some [0, 1, 9]))
 (.cond (.t 9)
  (.seq (.ops [⟨(some 4), none, .move (.c (.string .empty))⟩,
    ⟨(some 5), none, .move (.c (.int .i64 0))⟩,
    ⟨(some 6), none, .move (.c (.bool false))⟩] (some [4, 5, 6]))
  .ret)
  .skip))
 (.seq (.ops [⟨(some 10), none, .move (.t 0)⟩,
   ⟨(some 11), none, .move (.t 0)⟩,
   ⟨(some 12), none, .nilCheck (.t 11)⟩,
   ⟨(some 13), none, .fieldAddr 2 (.t 12)⟩,
   ⟨(some 14), none, .load false 1 (.t 13)⟩,
   ⟨(some 15), none, .move (.t 1)⟩,
   ⟨(some 16), none, .call (.c (.func (.func 52) #[] #[])) [(.t 10), (.t 14), (.t 15), (.c (.bool true))]⟩,
   ⟨(some 17), none, .extract (.t 16) 0⟩,
   ⟨(some 18), none, .extract (.t 16) 1⟩,
   ⟨(some 19), none, .extract (.t 16) 2⟩,
   ⟨(some 4), none, .move (.t 17)⟩,
   ⟨(some 5), none, .move (.t 18)⟩,
   ⟨(some 6), none, .move (.t 19)⟩] (some [4, 5, 6]))
 .ret))), [.tmp 4, .tmp 5, .tmp 6]⟩

theorem is31 : FnIs Try.prog 31 x31 := ⟨Try.f31, _, Try.func31, by kernel_rfl, rfl, by kernel_rfl, by decide, by kernel_rfl⟩

/-- (*cloisonne/cloisonneref08.Tree).Put -/
def x32 : XDecl := .code ⟨3, 
 (.seq (.ops [⟨(some 6), none, .move (.c (.int .i64 0))⟩,
   ⟨(some 7), none, .move (.c (.bool false))⟩] (some [0, 1, 2]))
 (.seq (.ops [⟨(some 14), none, .move (.t 0)⟩,
   ⟨(some 15), none, .move (.t 1)⟩,
   ⟨(some 16), none, .call (.c (.func (.func 35) #[] #[])) [(.t 14), (.t 15)]⟩,
   ⟨(some 13), none, .move (.t 16)⟩,
   ⟨(some 17), none, .extract (.t 13) 0⟩,
   ⟨(some 18), none, .extract (.t 13) 1⟩,
   ⟨(some 8), none, .move (.t 17)⟩,
   ⟨(some 9), none, .move (.t 18)⟩] (some [0, 1, 2, 8, 9]))
 (.seq (.seq (.ops [⟨(some 19), none, .move (.t 9)⟩] (some [0, 1, 2, 8, 19]))
 (.cond (.t 19)
  (.seq (.ops [⟨(some 20), none, .move (.t 0)⟩,
    ⟨(some 21), none, .nilCheck (.t 20)⟩,
    ⟨(some 22), none, .fieldAddr 1 (.t 21)⟩,
    ⟨(some 23), none, .load false 1 (.t 22)⟩,
    ⟨(some 24), none, .move (.t 8)⟩,
    ⟨(some 25), none, .indexAddr 1 (.t 23) (.t 24)⟩,
    ⟨(some 26), none, .load false 1 (.t 25)⟩,
    ⟨(some 10), none, .move (.t 26)⟩] (some [0, 2, 8, 10]))
  (.seq (.ops [⟨(some 27), none, .move (.t 0)⟩,
    ⟨(some 28), none, .nilCheck (.t 27)⟩,
    ⟨(some 29), none, .fieldAddr 1 (.t 28)⟩,
    ⟨(some 30), none, .load false 1 (.t 29)⟩,
    ⟨(some 31), none, .move (.t 8)⟩,
    ⟨(some 32), none, .move (.t 2)⟩,
    ⟨(some 33), none, .indexAddr 1 (.t 30) (.t 31)⟩,
    ⟨none, none, .store 1 (.t 33) (.t 32)⟩] (some [10]))
  (.seq (.ops [⟨(some 34), none, .move (.t 10)⟩,
    ⟨(some 6), none, .move (.t 34)⟩,
    ⟨(some 7), none, .move (.c (.bool true))⟩] (some [6, 7]))
  .ret)))
  .skip))
 (.seq (.ops [⟨(some 35), none, .buildSlice [(.string .empty)] 1 0 []⟩,
   ⟨(some 36), none, .move (.t 0)⟩,
   ⟨(some 37), none, .nilCheck (.t 36)⟩,
   ⟨(some 38), none, .fieldAddr 0 (.t 37)⟩,
   ⟨(some 39), none, .load false 1 (.t 38)⟩,
   ⟨(some 40), none, .move (.t 8)⟩,
   ⟨(some 41), none, .slice 1 (.t 39) none (some (.t 40)) none⟩,
   ⟨(some 42), none, .append 1 16 [(.string .empty)] (.t 35) (.t 41)⟩,
   ⟨(some 11), none, .move (.t 42)⟩] (some [0, 1, 2, 8, 11]))
 (.seq (.ops [⟨(some 43), none, .buildSlice [(.int .i64 0)] 1 0 []⟩,
   ⟨(some 44), none, .move (.t 0)⟩,
   ⟨(some 45), none, .nilCheck (.t 44)⟩,
   ⟨(some 46), none, .fieldAddr 1 (.t 45)⟩,
   ⟨(some 47), none, .load false 1 (.t 46)⟩,
   ⟨(some 48), none, .move (.t 8)⟩,
   ⟨(some 49), none, .slice 1 (.t 47) none (some (.t 48)) none⟩,
   ⟨(some 50), none, .append 1 8 [(.int .i64 0)] (.t 43) (.t 49)⟩,
   ⟨(some 12), none, .move (.t 50)⟩] (some [0, 1, 2, 8, 11, 12]))
 (.seq (.opsd [(0, 0, ⟨(some 51), none, .move (.t 0)⟩),
   (1, 0, ⟨(some 52), none, .move (.t 11)⟩),
   (2, 0, ⟨(some 53), none, .move (.t 1)⟩),
   (3, 4, ⟨(some 54), none, .buildSlice [(.string .empty)] 1 1 [(0, (.t 53))]⟩),
   (5, 0, ⟨(some 56), none, .move (.t 0)⟩),
   (6, 32, ⟨(some 57), none, .nilCheck (.t 56)⟩),
   (7, 96, ⟨(some 58), none, .fieldAddr 0 (.t 57)⟩),
   (8, 224, ⟨(some 59), none, .load false 1 (.t 58)⟩),
   (9, 0, ⟨(some 60), none, .move (.t 8)⟩),
   (10, 992, ⟨(some 61), none, .slice 1 (.t 59) (some (.t 60)) none none⟩),
   (4, 14, ⟨(some 55), none, .append 1 16 [(.string .empty)] (.t 52) (.t 54)⟩),
   (11, 2046, ⟨(some 62), none, .append 1 16 [(.string .empty)] (.t 55) (.t 61)⟩),
   (12, 4095, ⟨(some 63), none, .nilCheck (.t 51)⟩),
   (13, 8191, ⟨(some 64), none, .fieldAddr 0 (.t 63)⟩),
   (14, 16383, ⟨none, none, .store 1 (.t 64) (.t 62)⟩)] (some [0, 2, 8, 12]))
 (.seq (.opsd [(0, 0, ⟨(some 65), none, .move (.t 0)⟩),
   (1, 0, ⟨(some 66), none, .move (.t 12)⟩),
   (2, 0, ⟨(some 67), none, .move (.t 2)⟩),
   (3, 4, ⟨(some 68), none, .buildSlice [(.int .i64 0)] 1 1 [(0, (.t 67))]⟩),
   (5, 0, ⟨(some 70), none, .move (.t 0)⟩),
   (6, 32, ⟨(some 71), none, .nilCheck (.t 70)⟩),
   (7, 96, ⟨(some 72), none, .fieldAddr 1 (.t 71)⟩),
   (8, 224, ⟨(some 73), none, .load false 1 (.t 72)⟩),
   (9, 0, ⟨(some 74), none, .move (.t 8)⟩),
   (10, 992, ⟨(some 75), none, .slice 1 (.t 73) (some (.t 74)) none none⟩),
   (4, 14, ⟨(some 69), none, .append 1 8 [(.int .i64 0)] (.t 66) (.t 68)⟩),
   (11, 2046, ⟨(some 76), none, .append 1 8 [(.int .i64 0)] (.t 69) (.t 75)⟩),
   (12, 4095, ⟨(some 77), none, .nilCheck (.t 65)⟩),
   (13, 8191, ⟨(some 78), none, .fieldAddr 1 (.t 77)⟩),
   (14, 16383, ⟨none, none, .store 1 (.t 78) (.t 76)⟩)] (some []))
 (.seq (.ops [⟨(some 6), none, .move (.c (.int .i64 0))⟩,
   ⟨(some 7), none, .move (.c (.bool false))⟩] (some [6, 7]))
 .ret)))))))), [.tmp 6, .tmp 7]⟩

theorem is32 : FnIs Try.prog 32 x32 := ⟨Try.f32, _, Try.func32, by kernel_rfl, rfl, by kernel_rfl, by decide, by kernel_rfl⟩

/-- (*cloisonne/cloisonneref08.Tree).Del -/
def x33 : XDecl := .code ⟨2, 
 (.seq (.ops [⟨(some 4), none, .move (.c (.int .i64 0))⟩,
   ⟨(some 5), none, .move (.c (.bool false))⟩] (some [0, 1]))
 (.seq (.ops [⟨(some 12), none, .move (.t 0)⟩,
   ⟨(some 13), none, .move (.t 1)⟩,
   ⟨(some 14), none, .call (.c (.func (.func 35) #[] #[])) [(.t 12), (.t 13)]⟩,
   ⟨(some 11), none, .move (.t 14)⟩,
   ⟨(some 15), none, .extract (.t 11) 0⟩,
   ⟨(some 16), none, .extract (.t 11) 1⟩,
   ⟨(some 6), none, .move (.t 15)⟩,
   ⟨(some 7), none, .move (.t 16)⟩] (some [0, 6, 7]))
 (.seq (.seq (.ops [⟨(some 17), none, .move (.t 7)⟩,
   ⟨(some 18), none, .un .not (.t 17)⟩] (some [0, 6, 18]))
 (.cond (.t 18)
  (.seq (.ops [⟨(some 4), none, .move (.c (.int .i64 0))⟩,
    ⟨(some 5), none, .move (.c (.bool false))⟩] (some [4, 5]))
  .ret)
  .skip))
 (.seq (.ops [⟨(some 19), none, .move (.t 0)⟩,
   ⟨(some 20), none, .nilCheck (.t 19)⟩,
   ⟨(some 21), none, .fieldAddr 1 (.t 20)⟩,
   ⟨(some 22), none, .load false 1 (.t 21)⟩,
   ⟨(some 23), none, .move (.t 6)⟩,
   ⟨(some 24), none, .indexAddr 1 (.t 22) (.t 23)⟩,
   ⟨(some 25), none, .load false 1 (.t 24)⟩,
   ⟨(some 8), none, .move (.t 25)⟩] (some [0, 6, 8]))
 (.seq (.ops [⟨(some 26), none, .buildSlice [(.string .empty)] 1 0 []⟩,
   ⟨(some 27), none, .move (.t 0)⟩,
   ⟨(some 28), none, .nilCheck (.t 27)⟩,
   ⟨(some 29), none, .fieldAddr 0 (.t 28)⟩,
   ⟨(some 30), none, .load false 1 (.t 29)⟩,
   ⟨(some 31), none, .move (.t 6)⟩,
   ⟨(some 32), none, .slice 1 (.t 30) none (some (.t 31)) none⟩,
   ⟨(some 33), none, .append 1 16 [(.string .empty)] (.t 26) (.t 32)⟩,
   ⟨(some 9), none, .move (.t 33)⟩] (some [0, 6, 8, 9]))
 (.seq (.ops [⟨(some 34), none, .buildSlice [(.int .i64 0)] 1 0 []⟩,
   ⟨(some 35), none, .move (.t 0)⟩,
   ⟨(some 36), none, .nilCheck (.t 35)⟩,
   ⟨(some 37), none, .fieldAddr 1 (.t 36)⟩,
   ⟨(some 38), none, .load false 1 (.t 37)⟩,
   ⟨(some 39), none, .move (.t 6)⟩,
   ⟨(some 40), none, .slice 1 (.t 38) none (some (.t 39)) none⟩,
   ⟨(some 41), none, .append 1 8 [(.int .i64 0)] (.t 34) (.t 40)⟩,
   ⟨(some 10), none, .move (.t 41)⟩] (some [0, 6, 8, 9, 10]))
 (.seq (.ops [⟨(some 42), none, .move (.t 0)⟩,
   ⟨(some 43), none, .move (.t 9)⟩,
   ⟨(some 44), none, .move (.t 0)⟩,
   ⟨(some 45), none, .nilCheck (.t 44)⟩,
   ⟨(some 46), none, .fieldAddr 0 (.t 45)⟩,
   ⟨(some 47), none, .load false 1 (.t 46)⟩,
   ⟨(some 48), none, .move (.t 6)⟩,
   ⟨(some 49), none, .bin .add 3 (.t 48) (.c (.int .i64 1))⟩,
   ⟨(some 50), none, .slice 1 (.t 47) (some (.t 49)) none none⟩,
   ⟨(some 51), none, .append 1 16 [(.string .empty)] (.t 43) (.t 50)⟩,
   ⟨(some 52), none, .nilCheck (.t 42)⟩,
   ⟨(some 53), none, .fieldAddr 0 (.t 52)⟩,
   ⟨none, none, .store 1 (.t 53) (.t 51)⟩] (some [0, 6, 8, 10]))
 (.seq (.ops [⟨(some 54), none, .move (.t 0)⟩,
   ⟨(some 55), none, .move (.t 10)⟩,
   ⟨(some 56), none, .move (.t 0)⟩,
   ⟨(some 57), none, .nilCheck (.t 56)⟩,
   ⟨(some 58), none, .fieldAddr 1 (.t 57)⟩,
   ⟨(some 59), none, .load false 1 (.t 58)⟩,
   ⟨(some 60), none, .move (.t 6)⟩,
   ⟨(some 61), none, .bin .add 3 (.t 60) (.c (.int .i64 1))⟩,
   ⟨(some 62), none, .slice 1 (.t 59) (some (.t 61)) none none⟩,
   ⟨(some 63), none, .append 1 8 [(.int .i64 0)] (.t 55) (.t 62)⟩,
   ⟨(some 64), none, .nilCheck (.t 54)⟩,
   ⟨(some 65), none, .fieldAddr 1 (.t 64)⟩,
   ⟨none, none, .store 1 (.t 65) (.t 63)⟩] (some [8]))
 (.seq (.ops [⟨(some 66), none, .move (.t 8)⟩,
   ⟨(some 4), none, .move (.t 66)⟩,
   ⟨(some 5), none, .move (.c (.bool true))⟩] (some [4, 5]))
 .ret))))))))), [.tmp 4, .tmp 5]⟩

theorem is33 : FnIs Try.prog 33 x33 := ⟨Try.f33, _, Try.func33, by kernel_rfl, rfl, by kernel_rfl, by decide, by kernel_rfl⟩

/-- cloisonne/cloisonnelaw08.told -/
def x34 : XDecl := .code ⟨3, 
 (.seq (.ops [⟨(some 6), none, .move (.c (.bool false))⟩] (some [0, 1, 2]))
 (.seq (.ops [⟨(some 23), none, .move (.t 0)⟩,
   ⟨(some 24), none, .move (.t 2)⟩,
   ⟨(some 25), none, .call (.c (.func (.func 53) #[] #[])) [(.t 23), (.t 24)]⟩,
   ⟨(some 22), none, .move (.t 25)⟩,
   ⟨(some 26), none, .extract (.t 22) 0⟩,
   ⟨(some 27), none, .extract (.t 22) 1⟩,
   ⟨(some 7), none, .move (.t 26)⟩,
   ⟨(some 8), none, .move (.t 27)⟩] (some [0, 1, 2, 7, 8]))
 (.seq (.ops [⟨(some 29), none, .move (.t 1)⟩,
   ⟨(some 30), none, .move (.t 2)⟩,
   ⟨(some 31), none, .call (.c (.func (.func 35) #[] #[])) [(.t 29), (.t 30)]⟩,
   ⟨(some 28), none, .move (.t 31)⟩,
   ⟨(some 32), none, .extract (.t 28) 0⟩,
   ⟨(some 33), none, .extract (.t 28) 1⟩,
   ⟨(some 9), none, .move (.t 32)⟩,
   ⟨(some 10), none, .move (.t 33)⟩] (some [0, 1, 2, 7, 8, 9, 10]))
 (.seq (.seq (.ops [⟨(some 34), none, .move (.t 8)⟩,
   ⟨(some 35), none, .move (.t 10)⟩,
   ⟨(some 36), none, .bin .neq 4 (.t 34) (.t 35)⟩,
   ⟨(some 37), none, .move (.t 36)⟩,
   ⟨(some 38), (some (37, false)), .move (.t 10)⟩,
   ⟨(some 39), (some (37, false)), .move (.t 38)⟩,
   ⟨(some 40), (some (39, true)), .move (.t 7)⟩,
   ⟨(some 41), (some (39, true)), .move (.t 1)⟩,
   ⟨(some 42), (some (39, true)), .nilCheck (.t 41)⟩,
   ⟨(some 43), (some (39, true)), .fieldAddr 1 (.t 42)⟩,
   ⟨(some 44), (some (39, true)), .load false 1 (.t 43)⟩,
   ⟨(some 45), (some (39, true)), .move (.t 9)⟩,
   ⟨(some 46), (some (39, true)), .indexAddr 1 (.t 44) (.t 45)⟩,
   ⟨(some 47), (some (39, true)), .load false 1 (.t 46)⟩,
   ⟨(some 48), (some (39, true)), .bin .neq 3 (.t 40) (.t 47)⟩,
   ⟨(some 49), (some (37, false)), .pick (.t 39) (.t 48) (.c (.bool false))⟩,
   ⟨(some 50), none, .pick (.t 37) (.c (.bool true)) (.t 49)⟩,
   ⟨(some 51), none, .move (.t 50)⟩,
   ⟨(some 52), (some (51, false)), .move (.t 10)⟩,
   ⟨(some 53), (some (51, false)), .un .not (.t 52)⟩,
   ⟨(some 54), (some (51, false)), .move (.t 53)⟩,
   ⟨(some 55), (some (54, true)), .move (.t 7)⟩,
   ⟨(some 56), (some (54, true)), .bin .neq 3 (.t 55) (.c (.int .i64 0))⟩,
   ⟨(some 57), (some (51, false)), .pick (.t 54) (.t 56) (.c (.bool false))⟩,
   ⟨(some 58), none, .pick (.t 51) (.c (.bool true)) (.t 57)⟩] (some [0, 1, 2, 9, 58]))
 (.cond (.t 58)
  (.seq (.ops [⟨(some 6), none, .move (.c (.bool false))⟩] (some [6]))
  .ret)
  .skip))
 (.seq (.ops [⟨(some 60), none, .move (.t 0)⟩,
   ⟨(some 61), none, .move (.t 2)⟩,
   ⟨(some 62), none, .call (.c (.func (.func 29) #[] #[])) [(.t 60), (.t 61)]⟩,
   ⟨(some 59), none, .move (.t 62)⟩,
   ⟨(some 63), none, .extract (.t 59) 0⟩,
   ⟨(some 64), none, .extract (.t 59) 1⟩,
   ⟨(some 65), none, .extract (.t 59) 2⟩,
   ⟨(some 11), none, .move (.t 63)⟩,
   ⟨(some 12), none, .move (.t 64)⟩,
   ⟨(some 13), none, .move (.t 65)⟩] (some [0, 1, 2, 9, 11, 12, 13]))
 (.seq (.ops [⟨(some 67), none, .move (.t 0)⟩,
   ⟨(some 68), none, .move (.t 2)⟩,
   ⟨(some 69), none, .call (.c (.func (.func 31) #[] #[])) [(.t 67), (.t 68)]⟩,
   ⟨(some 66), none, .move (.t 69)⟩,
   ⟨(some 70), none, .extract (.t 66) 0⟩,
   ⟨(some 71), none, .extract (.t 66) 1⟩,
   ⟨(some 72), none, .extract (.t 66) 2⟩,
   ⟨(some 14), none, .move (.t 70)⟩,
   ⟨(some 15), none, .move (.t 71)⟩,
   ⟨(some 16), none, .move (.t 72)⟩] (some [0, 1, 2, 9, 11, 12, 13, 14, 15, 16]))
 (.seq (.ops [⟨(some 74), none, .move (.t 0)⟩,
   ⟨(some 75), none, .move (.t 2)⟩,
   ⟨(some 76), none, .call (.c (.func (.func 57) #[] #[])) [(.t 74), (.t 75)]⟩,
   ⟨(some 73), none, .move (.t 76)⟩,
   ⟨(some 77), none, .extract (.t 73) 0⟩,
   ⟨(some 78), none, .extract (.t 73) 1⟩,
   ⟨(some 79), none, .extract (.t 73) 2⟩,
   ⟨(some 17), none, .move (.t 77)⟩,
   ⟨(some 18), none, .move (.t 78)⟩,
   ⟨(some 19), none, .move (.t 79)⟩] (some [0, 1, 2, 9, 11, 12, 13, 14, 15, 16, 17, 18, 19]))
 (.seq (.ops [⟨(some 80), none, .move (.t 1)⟩,
   ⟨(some 81), none, .move (.t 2)⟩,
   ⟨(some 82), none, .call (.c (.func (.func 58) #[] #[])) [(.t 80), (.t 81), (.c (.bool false))]⟩,
   ⟨(some 83), none, .move (.t 1)⟩,
   ⟨(some 84), none, .move (.t 2)⟩,
   ⟨(some 85), none, .call (.c (.func (.func 58) #[] #[])) [(.t 83), (.t 84), (.c (.bool true))]⟩,
   ⟨(some 20), none, .move (.t 82)⟩,
   ⟨(some 21), none, .move (.t 85)⟩] (some [0, 1, 9, 11, 12, 13, 14, 15, 16, 17, 18, 19, 20, 21]))
 (.seq (.seq (.ops [⟨(some 86), none, .move (.t 13)⟩,
   ⟨(some 87), none, .move (.t 20)⟩,
   ⟨(some 88), none, .bin .geq 3 (.t 87) (.c (.int .i64 0))⟩,
   ⟨(some 89), none, .bin .neq 4 (.t 86) (.t 88)⟩,
   ⟨(some 90), none, .move (.t 89)⟩,
   ⟨(some 91), (some (90, false)), .move (.t 13)⟩,
   ⟨(some 92), (some (90, false)), .move (.t 91)⟩,
   ⟨(some 93), (some (92, true)), .move (.t 11)⟩,
   ⟨(some 94), (some (92, true)), .move (.t 1)⟩,
   ⟨(some 95), (some (92, true)), .nilCheck (.t 94)⟩,
   ⟨(some 96), (some (92, true)), .fieldAddr 0 (.t 95)⟩,
   ⟨(some 97), (some (92, true)), .load false 1 (.t 96)⟩,
   ⟨(some 98), (some (92, true)), .move (.t 20)⟩,
   ⟨(some 99), (some (92, true)), .indexAddr 1 (.t 97) (.t 98)⟩,
   ⟨(some 100), (some (92, true)), .load false 1 (.t 99)⟩,
   ⟨(some 101), (some (92, true)), .bin .neq 9 (.t 93) (.t 100)⟩,
   ⟨(some 102), (some (92, true)), .move (.t 101)⟩,
   ⟨(some 103), (some (102, false)), .move (.t 12)⟩,
   ⟨(some 104), (some (102, false)), .move (.t 1)⟩,
   ⟨(some 105), (some (102, false)), .nilCheck (.t 104)⟩,
   ⟨(some 106), (some (102, false)), .fieldAddr 1 (.t 105)⟩,
   ⟨(some 107), (some (102, false)), .load false 1 (.t 106)⟩,
   ⟨(some 108), (some (102, false)), .move (.t 20)⟩,
   ⟨(some 109), (some (102, false)), .indexAddr 1 (.t 107) (.t 108)⟩,
   ⟨(some 110), (some (102, false)), .load false 1 (.t 109)⟩,
   ⟨(some 111), (some (102, false)), .bin .neq 3 (.t 103) (.t 110)⟩,
   ⟨(some 112), (some (92, true)), .pick (.t 102) (.c (.bool true)) (.t 111)⟩,
   ⟨(some 113), (some (90, false)), .pick (.t 92) (.t 112) (.c (.bool false))⟩,
   ⟨(some 114), none, .pick (.t 90) (.c (.bool true)) (.t 113)⟩,
   ⟨(some 115), none, .move (.t 114)⟩,
   ⟨(some 116), (some (115, false)), .move (.t 13)⟩,
   ⟨(some 117), (some (115, false)), .un .not (.t 116)⟩,
   ⟨(some 118), (some (115, false)), .move (.t 117)⟩,
   ⟨(some 119), (some (118, true)), .move (.t 11)⟩,
   ⟨(some 120), (some (118, true)), .bin .neq 9 (.t 119) (.c (.string .empty))⟩,
   ⟨(some 121), (some (118, true)), .move (.t 120)⟩,
   ⟨(some 122), (some (121, false)), .move (.t 12)⟩,
   ⟨(some 123), (some (121, false)), .bin .neq 3 (.t 122) (.c (.int .i64 0))⟩,
   ⟨(some 124), (some (118, true)), .pick (.t 121) (.c (.bool true)) (.t 123)⟩,
   ⟨(some 125), (some (115, false)), .pick (.t 118) (.t 124) (.c (.bool false))⟩,
   ⟨(some 126), none, .pick (.t 115) (.c (.bool true)) (.t 125)⟩] (some [0, 1, 9, 14, 15, 16, 17, 18, 19, 21, 126]))
 (.cond (.t 126)
  (.seq (.ops [⟨(some 6), none, .move (.c (.bool false))⟩] (some [6]))
  .ret)
  .skip))
 (.seq (.seq (.ops [⟨(some 127), none, .move (.t 16)⟩,
   ⟨(some 128), none, .move (.t 21)⟩,
   ⟨(some 129), none, .bin .geq 3 (.t 128) (.c (.int .i64 0))⟩,
   ⟨(some 130), none, .bin .neq 4 (.t 127) (.t 129)⟩,
   ⟨(some 131), none, .move (.t 130)⟩,
   ⟨(some 132), (some (131, false)), .move (.t 16)⟩,
   ⟨(some 133), (some (131, false)), .move (.t 132)⟩,
   ⟨(some 134), (some (133, true)), .move (.t 14)⟩,
   ⟨(some 135), (some (133, true)), .move (.t 1)⟩,
   ⟨(some 136), (some (133, true)), .nilCheck (.t 135)⟩,
   ⟨(some 137), (some (133, true)), .fieldAddr 0 (.t 136)⟩,
   ⟨(some 138), (some (133, true)), .load false 1 (.t 137)⟩,
   ⟨(some 139), (some (133, true)), .move (.t 21)⟩,
   ⟨(some 140), (some (133, true)), .indexAddr 1 (.t 138) (.t 139)⟩,
   ⟨(some 141), (some (133, true)), .load false 1 (.t 140)⟩,
   ⟨(some 142), (some (133, true)), .bin .neq 9 (.t 134) (.t 141)⟩,
   ⟨(some 143), (some (133, true)), .move (.t 142)⟩,
   ⟨(some 144), (some (143, false)), .move (.t 15)⟩,
   ⟨(some 145), (some (143, false)), .move (.t 1)⟩,
   ⟨(some 146), (some (143, false)), .nilCheck (.t 145)⟩,
   ⟨(some 147), (some (143, false)), .fieldAddr 1 (.t 146)⟩,
   ⟨(some 148), (some (143, false)), .load false 1 (.t 147)⟩,
   ⟨(some 149), (some (143, false)), .move (.t 21)⟩,
   ⟨(some 150), (some (143, false)), .indexAddr 1 (.t 148) (.t 149)⟩,
   ⟨(some 151), (some (143, false)), .load false 1 (.t 150)⟩,
   ⟨(some 152), (some (143, false)), .bin .neq 3 (.t 144) (.t 151)⟩,
   ⟨(some 153), (some (133, true)), .pick (.t 143) (.c (.bool true)) (.t 152)⟩,
   ⟨(some 154), (some (131, false)), .pick (.t 133) (.t 153) (.c (.bool false))⟩,
   ⟨(some 155), none, .pick (.t 131) (.c (.bool true)) (.t 154)⟩,
   ⟨(some 156), none, .move (.t 155)⟩,
   ⟨(some 157), (some (156, false)), .move (.t 16)⟩,
   ⟨(some 158), (some (156, false)), .un .not (.t 157)⟩,
   ⟨(some 159), (some (156, false)), .move (.t 158)⟩,
   ⟨(some 160), (some (159, true)), .move (.t 14)⟩,
   ⟨(some 161), (some (159, true)), .bin .neq 9 (.t 160) (.c (.string .empty))⟩,
   ⟨(some 162), (some (159, true)), .move (.t 161)⟩,
   ⟨(some 163), (some (162, false)), .move (.t 15)⟩,
   ⟨(some 164), (some (162, false)), .bin .neq 3 (.t 163) (.c (.int .i64 0))⟩,
   ⟨(some 165), (some (159, true)), .pick (.t 162) (.c (.bool true)) (.t 164)⟩,
   ⟨(some 166), (some (156, false)), .pick (.t 159) (.t 165) (.c (.bool false))⟩,
   ⟨(some 167), none, .pick (.t 156) (.c (.bool true)) (.t 166)⟩] (some [0, 1, 9, 17, 18, 19, 167]))
 (.cond (.t 167)
  (.seq (.ops [⟨(some 6), none, .move (.c (.bool false))⟩] (some [6]))
  .ret)
  .skip))
 (.seq (.seq (.ops [⟨(some 168), none, .move (.t 19)⟩,
   ⟨(some 169), none, .move (.t 9)⟩,
   ⟨(some 170), none, .bin .gtr 3 (.t 169) (.c (.int .i64 0))⟩,
   ⟨(some 171), none, .bin .neq 4 (.t 168) (.t 170)⟩,
   ⟨(some 172), none, .move (.t 171)⟩,
   ⟨(some 173), (some (172, false)), .move (.t 19)⟩,
   ⟨(some 174), (some (172, false)), .move (.t 173)⟩,
   ⟨(some 175), (some (174, true)), .move (.t 17)⟩,
   ⟨(some 176), (some (174, true)), .move (.t 1)⟩,
   ⟨(some 177), (some (174, true)), .nilCheck (.t 176)⟩,
   ⟨(some 178), (some (174, true)), .fieldAddr 0 (.t 177)⟩,
   ⟨(some 179), (some (174, true)), .load false 1 (.t 178)⟩,
   ⟨(some 180), (some (174, true)), .move (.t 9)⟩,
   ⟨(some 181), (some (174, true)), .bin .sub 3 (.t 180) (.c (.int .i64 1))⟩,
   ⟨(some 182), (some (174, true)), .indexAddr 1 (.t 179) (.t 181)⟩,
   ⟨(some 183), (some (174, true)), .load false 1 (.t 182)⟩,
   ⟨(some 184), (some (174, true)), .bin .neq 9 (.t 175) (.t 183)⟩,
   ⟨(some 185), (some (174, true)), .move (.t 184)⟩,
   ⟨(some 186), (some (185, false)), .move (.t 18)⟩,
   ⟨(some 187), (some (185, false)), .move (.t 1)⟩,
   ⟨(some 188), (some (185, false)), .nilCheck (.t 187)⟩,
   ⟨(some 189), (some (185, false)), .fieldAddr 1 (.t 188)⟩,
   ⟨(some 190), (some (185, false)), .load false 1 (.t 189)⟩,
   ⟨(some 191), (some (185, false)), .move (.t 9)⟩,
   ⟨(some 192), (some (185, false)), .bin .sub 3 (.t 191) (.c (.int .i64 1))⟩,
   ⟨(some 193), (some (185, false)), .indexAddr 1 (.t 190) (.t 192)⟩,
   ⟨(some 194), (some (185, false)), .load false 1 (.t 193)⟩,
   ⟨(some 195), (some (185, false)), .bin .neq 3 (.t 186) (.t 194)⟩,
   ⟨(some 196), (some (174, true)), .pick (.t 185) (.c (.bool true)) (.t 195)⟩,
   ⟨(some 197), (some (172, false)), .pick (.t 174) (.t 196) (.c (.bool false))⟩,
   ⟨(some 198), none, .pick (.t 172) (.c (.bool true)) (.t 197)⟩,
   ⟨(some 199), none, .move (.t 198)⟩,
   ⟨(some 200), (some (199, false)), .move (.t 19)⟩,
   ⟨(some 201), (some (199, false)), .un .not (.t 200)⟩,
   ⟨(some 202), (some (199, false)), .move (.t 201)⟩,
   ⟨(some 203), (some (202, true)), .move (.t 17)⟩,
   ⟨(some 204), (some (202, true)), .bin .neq 9 (.t 203) (.c (.string .empty))⟩,
   ⟨(some 205), (some (202, true)), .move (.t 204)⟩,
   ⟨(some 206), (some (205, false)), .move (.t 18)⟩,
   ⟨(some 207), (some (205, false)), .bin .neq 3 (.t 206) (.c (.int .i64 0))⟩,
   ⟨(some 208), (some (202, true)), .pick (.t 205) (.c (.bool true)) (.t 207)⟩,
   ⟨(some 209), (some (199, false)), .pick (.t 202) (.t 208) (.c (.bool false))⟩,
   ⟨(some 210), none, .pick (.t 199) (.c (.bool true)) (.t 209)⟩] (some [0, 1, 210]))
 (.cond (.t 210)
  (.seq (.ops [⟨(some 6), none, .move (.c (.bool false))⟩] (some [6]))
  .ret)
  .skip))
 (.seq (.opsd [(0, 0, ⟨(some 211), none, .move (.t 0)⟩),
   (2, 0, ⟨(some 213), none, .move (.t 1)⟩),
   (3, 4, ⟨(some 214), none, .nilCheck (.t 213)⟩),
   (4, 12, ⟨(some 215), none, .fieldAddr 0 (.t 214)⟩),
   (5, 28, ⟨(some 216), none, .load false 1 (.t 215)⟩),
   (6, 60, ⟨(some 217), none, .len (.t 216)⟩),
   (1, 1, ⟨(some 212), none, .call (.c (.func (.func 59) #[] #[])) [(.t 211)]⟩),
   (7, 127, ⟨(some 218), none, .bin .eql 3 (.t 212) (.t 217)⟩),
   (8, 255, ⟨(some 6), none, .move (.t 218)⟩)] (some [6]))
 .ret)))))))))))), [.tmp 6]⟩

theorem is34 : FnIs Try.prog 34 x34 := ⟨Try.f34, _, Try.func34, by kernel_rfl, rfl, by kernel_rfl, by decide, by kernel_rfl⟩

/-- (*cloisonne/cloisonneref08.Tree).At -/
def x35 : XDecl := .code ⟨2, 
 (.seq (.ops [⟨(some 4), none, .move (.c (.int .i64 0))⟩,
   ⟨(some 5), none, .move (.c (.bool false))⟩] (some [0, 1]))
 (.seq (.ops [⟨(some 6), none, .move (.c (.int .i64 0))⟩] (some [0, 1, 6]))
 (.seq (.block 0
  (.loop
   (.seq (.seq (.ops [⟨(some 7), none, .move (.t 6)⟩,
     ⟨(some 8), none, .move (.t 0)⟩,
     ⟨(some 9), none, .nilCheck (.t 8)⟩,
     ⟨(some 10), none, .fieldAddr 0 (.t 9)⟩,
     ⟨(some 11), none, .load false 1 (.t 10)⟩,
     ⟨(some 12), none, .len (.t 11)⟩,
     ⟨(some 13), none, .bin .lss 3 (.t 7) (.t 12)⟩,
     ⟨(some 14), none, .move (.t 13)⟩,
     ⟨(some 15), (some (14, true)), .move (.t 0)⟩,
     ⟨(some 16), (some (14, true)), .nilCheck (.t 15)⟩,
     ⟨(some 17), (some (14, true)), .fieldAddr 0 (.t 16)⟩,
     ⟨(some 18), (some (14, true)), .load false 1 (.t 17)⟩,
     ⟨(some 19), (some (14, true)), .move (.t 6)⟩,
     ⟨(some 20), (some (14, true)), .indexAddr 1 (.t 18) (.t 19)⟩,
     ⟨(some 21), (some (14, true)), .load false 1 (.t 20)⟩,
     ⟨(some 22), (some (14, true)), .move (.t 1)⟩,
     ⟨(some 23), (some (14, true)), .bin .lss 9 (.t 21) (.t 22)⟩,
     ⟨(some 24), none, .pick (.t 14) (.t 23) (.c (.bool false))⟩] (some [0, 1, 6, 24]))
   (.cond (.t 24)
    .skip
    (.exit 0)))
   (.block 1
    (.ops [⟨(some 25), none, .move (.t 6)⟩,
      ⟨(some 26), none, .bin .add 3 (.t 25) (.c (.int .i64 1))⟩,
      ⟨(some 6), none, .move (.t 26)⟩] (some [0, 1, 6]))))))
 (.seq (.opsr [⟨(some 27), none, .move (.t 6)⟩,
   ⟨(some 28), none, .move (.t 6)⟩,
   ⟨(some 29), none, .move (.t 0)⟩,
   ⟨(some 30), none, .nilCheck (.t 29)⟩,
   ⟨(some 31), none, .fieldAddr 0 (.t 30)⟩,
   ⟨(some 32), none, .load false 1 (.t 31)⟩,
   ⟨(some 33), none, .len (.t 32)⟩,
   ⟨(some 34), none, .bin .lss 3 (.t 28) (.t 33)⟩,
   ⟨(some 35), none, .move (.t 34)⟩,
   ⟨(some 36), (some (35, true)), .move (.t 0)⟩,
   ⟨(some 37), (some (35, true)), .nilCheck (.t 36)⟩,
   ⟨(some 38), (some (35, true)), .fieldAddr 0 (.t 37)⟩,
   ⟨(some 39), (some (35, true)), .load false 1 (.t 38)⟩,
   ⟨(some 40), (some (35, true)), .move (.t 6)⟩,
   ⟨(some 41), (some (35, true)), .indexAddr 1 (.t 39) (.t 40)⟩,
   ⟨(some 42), (some (35, true)), .load false 1 (.t 41)⟩,
   ⟨(some 43), (some (35, true)), .move (.t 1)⟩,
   ⟨(some 44), (some (35, true)), .bin .eql 9 (.t 42) (.t 43)⟩,
   ⟨(some 45), none, .pick (.t 35) (.t 44) (.c (.bool false))⟩,
   ⟨(some 4), none, .move (.t 27)⟩,
   ⟨(some 5), none, .move (.t 45)⟩] (some [4, 5]))
 .ret)))), [.tmp 4, .tmp 5]⟩

theorem is35 : FnIs Try.prog 35 x35 := ⟨Try.f35, _, Try.func35, by kernel_rfl, rfl, by kernel_rfl, by decide, by kernel_rfl⟩

/-- (*cloisonne/tree.Tree).Depth -/
def x44 : XDecl := .code ⟨1, 
 (.seq (.ops [⟨(some 2), none, .move (.c (.int .i64 0))⟩] (some [0]))
 (.seq (.seq (.ops [⟨(some 5), none, .move (.t 0)⟩,
   ⟨(some 6), none, .call (.c (.func (.func 51) #[] #[])) [(.t 5)]⟩,
   ⟨(some 7), none, .un .not (.t 6)⟩] (some [0, 7]))
 (.cond (.t 7)
  (.seq (.ops [⟨(some 2), none, .move (.c (.int .i64 0))⟩] (some [2]))
  .ret)
  .skip))
 (.seq (.ops [⟨(some 3), none, .move (.c (.int .i64 1))⟩] (some [0, 3]))
 (.seq (.seq (.opsd [(0, 0, ⟨(some 8), none, .move (.t 0)⟩),
   (1, 1, ⟨(some 9), none, .nilCheck (.t 8)⟩),
   (2, 3, ⟨(some 10), none, .fieldAddr 0 (.t 9)⟩),
   (3, 7, ⟨(some 11), none, .load false 1 (.t 10)⟩),
   (4, 0, ⟨(some 12), none, .move (.t 0)⟩),
   (5, 16, ⟨(some 13), none, .nilCheck (.t 12)⟩),
   (6, 48, ⟨(some 14), none, .fieldAddr 2 (.t 13)⟩),
   (7, 112, ⟨(some 15), none, .load false 1 (.t 14)⟩),
   (8, 255, ⟨(some 16), none, .indexAddr 3 (.t 11) (.t 15)⟩),
   (9, 511, ⟨(some 17), none, .load true 3 (.t 16)⟩),
   (10, 0, ⟨(some 4), none, .alloc [(.slice none 0 0), (.slice none 0 0), (.slice none 0 0)]⟩),
   (11, 2047, ⟨none, none, .store 3 (.t 4) (.t 17)⟩)] (some [0, 3, 4]))
 (.block 0
  (.loop
   (.seq (.seq (.ops [⟨(some 18), none, .call (.c (.func (.func 56) #[] #[])) [(.t 4)]⟩,
     ⟨(some 19), none, .un .not (.t 18)⟩] (some [0, 3, 4, 19]))
   (.cond (.t 19)
    .skip
    (.exit 0)))
   (.seq (.block 1
    (.ops [⟨(some 30), none, .move (.t 3)⟩,
      ⟨(some 31), none, .bin .add 3 (.t 30) (.c (.int .i64 1))⟩,
      ⟨(some 3), none, .move (.t 31)⟩] (some [0, 3, 4])))
   (.seq (.seq (.ops [⟨(some 32), none, .load true 3 (.t 4)⟩] (some [0, 3, 32]))
   (.ops [⟨(some 4), none, .alloc [(.slice none 0 0), (.slice none 0 0), (.slice none 0 0)]⟩,
     ⟨none, none, .store 3 (.t 4) (.t 32)⟩] (some [0, 3, 4])))
   (.opsd [(0, 0, ⟨(some 20), none, .move (.t 0)⟩),
     (1, 1, ⟨(some 21), none, .nilCheck (.t 20)⟩),
     (2, 3, ⟨(some 22), none, .fieldAddr 0 (.t 21)⟩),
     (3, 7, ⟨(some 23), none, .load false 1 (.t 22)⟩),
     (4, 0, ⟨(some 24), none, .fieldAddr 2 (.t 4)⟩),
     (5, 16, ⟨(some 25), none, .load false 1 (.t 24)⟩),
     (6, 48, ⟨(some 26), none, .indexAddr 1 (.t 25) (.c (.int .i64 0))⟩),
     (7, 112, ⟨(some 27), none, .load false 1 (.t 26)⟩),
     (8, 255, ⟨(some 28), none, .indexAddr 3 (.t 23) (.t 27)⟩),
     (9, 511, ⟨(some 29), none, .load true 3 (.t 28)⟩),
     (10, 1023, ⟨none, none, .store 3 (.t 4) (.t 29)⟩)] (some [0, 3, 4]))))))))
 (.seq (.ops [⟨(some 33), none, .move (.t 3)⟩,
   ⟨(some 2), none, .move (.t 33)⟩] (some [2]))
 .ret))))), [.tmp 2]⟩

theorem is44 : FnIs Try.prog 44 x44 := ⟨Try.f44, _, Try.func44, by kernel_rfl, rfl, by kernel_rfl, by decide, by kernel_rfl⟩

/-- (*cloisonne/tree.Tree).Nodes -/
def x45 : XDecl := .code ⟨1, 
 (.seq (.ops [⟨(some 2), none, .move (.c (.int .i64 0))⟩] (some [0]))
 (.seq (.seq (.ops [⟨(some 3), none, .move (.t 0)⟩,
   ⟨(some 4), none, .isNil .ptr false (.t 3)⟩] (some [0, 4]))
 (.cond (.t 4)
  (.seq (.ops [⟨(some 2), none, .move (.c (.int .i64 0))⟩] (some [2]))
  .ret)
  .skip))
 (.seq (.opsr [⟨(some 5), none, .move (.t 0)⟩,
   ⟨(some 6), none, .nilCheck (.t 5)⟩,
   ⟨(some 7), none, .fieldAddr 0 (.t 6)⟩,
   ⟨(some 8), none, .load false 1 (.t 7)⟩,
   ⟨(some 9), none, .len (.t 8)⟩,
   ⟨(some 10), none, .move (.t 0)⟩,
   ⟨(some 11), none, .nilCheck (.t 10)⟩,
   ⟨(some 12), none, .fieldAddr 1 (.t 11)⟩,
   ⟨(some 13), none, .load false 1 (.t 12)⟩,
   ⟨(some 14), none, .len (.t 13)⟩,
   ⟨(some 15), none, .bin .sub 3 (.t 9) (.t 14)⟩,
   ⟨(some 2), none, .move (.t 15)⟩] (some [2]))
 .ret))), [.tmp 2]⟩

theorem is45 : FnIs Try.prog 45 x45 := ⟨Try.f45, _, Try.func45, by kernel_rfl, rfl, by kernel_rfl, by decide, by kernel_rfl⟩

/-- (*cloisonne/tree.Tree).find -/
def x46 : XDecl := .code ⟨2, 
 (.seq (.ops [⟨(some 4), none, .move (.c (.pointer none))⟩,
   ⟨(some 5), none, .move (.c (.int .i64 0))⟩,
   ⟨(some 6), none, .move (.c (.bool false))⟩] (some [0, 1]))
 (.seq (.seq (.ops [⟨(some 10), none, .move (.t 0)⟩,
   ⟨(some 11), none, .isNil .ptr false (.t 10)⟩,
   ⟨(some 12), none, .move (.t 11)⟩,
   ⟨(some 13), (some (12, false)), .move (.t 0)⟩,
   ⟨(some 14), (some (12, false)), .nilCheck (.t 13)⟩,
   ⟨(some 15), (some (12, false)), .fieldAddr 2 (.t 14)⟩,
   ⟨(some 16), (some (12, false)), .load false 1 (.t 15)⟩,
   ⟨(some 17), (some (12, false)), .bin .lss 3 (.t 16) (.c (.int .i64 0))⟩,
   ⟨(some 18), none, .pick (.t 12) (.c (.bool true)) (.t 17)⟩] (some [0, 1, 18]))
 (.cond (.t 18)
  (.seq (.ops [⟨(some 4), none, .move (.c (.pointer none))⟩,
    ⟨(some 5), none, .move (.c (.int .i64 0))⟩,
    ⟨(some 6), none, .move (.c (.bool false))⟩] (some [4, 5, 6]))
  .ret)
  .skip))
 (.seq (.opsr [⟨(some 19), none, .move (.t 0)⟩,
   ⟨(some 20), none, .nilCheck (.t 19)⟩,
   ⟨(some 21), none, .fieldAddr 0 (.t 20)⟩,
   ⟨(some 22), none, .load false 1 (.t 21)⟩,
   ⟨(some 23), none, .move (.t 0)⟩,
   ⟨(some 24), none, .nilCheck (.t 23)⟩,
   ⟨(some 25), none, .fieldAddr 2 (.t 24)⟩,
   ⟨(some 26), none, .load false 1 (.t 25)⟩,
   ⟨(some 27), none, .indexAddr 3 (.t 22) (.t 26)⟩,
   ⟨(some 7), none, .move (.t 27)⟩] (some [0, 1, 7]))
 (.seq (.block 0
  (.loop
   (.seq (.seq (.ops [⟨(some 28), none, .move (.t 7)⟩,
     ⟨(some 29), none, .call (.c (.func (.func 56) #[] #[])) [(.t 28)]⟩,
     ⟨(some 30), none, .un .not (.t 29)⟩] (some [0, 1, 7, 30]))
   (.cond (.t 30)
    .skip
    (.exit 0)))
   (.block 1
    (.opsd [(0, 0, ⟨(some 31), none, .move (.t 0)⟩),
      (1, 1, ⟨(some 32), none, .nilCheck (.t 31)⟩),
      (2, 3, ⟨(some 33), none, .fieldAddr 0 (.t 32)⟩),
      (3, 7, ⟨(some 34), none, .load false 1 (.t 33)⟩),
      (4, 0, ⟨(some 35), none, .move (.t 7)⟩),
      (5, 16, ⟨(some 36), none, .nilCheck (.t 35)⟩),
      (6, 48, ⟨(some 37), none, .fieldAddr 2 (.t 36)⟩),
      (7, 112, ⟨(some 38), none, .load false 1 (.t 37)⟩),
      (8, 0, ⟨(some 39), none, .move (.t 7)⟩),
      (9, 0, ⟨(some 40), none, .move (.t 1)⟩),
      (10, 768, ⟨(some 41), none, .call (.c (.func (.func 68) #[] #[])) [(.t 39), (.t 40)]⟩),
      (11, 2032, ⟨(some 42), none, .indexAddr 1 (.t 38) (.t 41)⟩),
      (12, 4080, ⟨(some 43), none, .load false 1 (.t 42)⟩),
      (13, 8191, ⟨(some 44), none, .indexAddr 3 (.t 34) (.t 43)⟩),
      (14, 16383, ⟨(some 7), none, .move (.t 44)⟩)] (some [0, 1, 7]))))))
 (.seq (.ops [⟨(some 46), none, .move (.t 7)⟩,
   ⟨(some 47), none, .nilCheck (.t 46)⟩,
   ⟨(some 48), none, .fieldAddr 0 (.t 47)⟩,
   ⟨(some 49), none, .load false 1 (.t 48)⟩,
   ⟨(some 50), none, .move (.t 1)⟩,
   ⟨(some 51), none, .call (.c (.func (.func 69) #[] #[])) [(.t 49), (.t 50)]⟩,
   ⟨(some 45), none, .move (.t 51)⟩,
   ⟨(some 52), none, .extract (.t 45) 0⟩,
   ⟨(some 53), none, .extract (.t 45) 1⟩,
   ⟨(some 8), none, .move (.t 52)⟩,
   ⟨(some 9), none, .move (.t 53)⟩] (some [7, 8, 9]))
 (.seq (.ops [⟨(some 54), none, .move (.t 7)⟩,
   ⟨(some 55), none, .move (.t 8)⟩,
   ⟨(some 56), none, .move (.t 9)⟩,
   ⟨(some 4), none, .move (.t 54)⟩,
   ⟨(some 5), none, .move (.t 55)⟩,
   ⟨(some 6), none, .move (.t 56)⟩] (some [4, 5, 6]))
 .ret)))))), [.tmp 4, .tmp 5, .tmp 6]⟩

theorem is46 : FnIs Try.prog 46 x46 := ⟨Try.f46, _, Try.func46, by kernel_rfl, rfl, by kernel_rfl, by decide, by kernel_rfl⟩

/-- (*cloisonne/tree.Tree).add -/
def x47 : XDecl := .code ⟨2, 
 (.seq (.ops [⟨(some 3), none, .box (.t 1)⟩,
   ⟨(some 4), none, .move (.c (.int .i64 0))⟩] (some [0, 3]))
 (.seq (.seq (.ops [⟨(some 7), none, .move (.t 0)⟩,
   ⟨(some 8), none, .nilCheck (.t 7)⟩,
   ⟨(some 9), none, .fieldAddr 1 (.t 8)⟩,
   ⟨(some 10), none, .load false 1 (.t 9)⟩,
   ⟨(some 11), none, .len (.t 10)⟩,
   ⟨(some 5), none, .move (.t 11)⟩] (some [0, 3, 5]))
 (.seq (.ops [⟨(some 12), none, .move (.t 5)⟩,
   ⟨(some 13), none, .bin .gtr 3 (.t 12) (.c (.int .i64 0))⟩] (some [0, 3, 5, 13]))
 (.cond (.t 13)
  (.seq (.ops [⟨(some 14), none, .move (.t 0)⟩,
    ⟨(some 15), none, .nilCheck (.t 14)⟩,
    ⟨(some 16), none, .fieldAddr 1 (.t 15)⟩,
    ⟨(some 17), none, .load false 1 (.t 16)⟩,
    ⟨(some 18), none, .move (.t 5)⟩,
    ⟨(some 19), none, .bin .sub 3 (.t 18) (.c (.int .i64 1))⟩,
    ⟨(some 20), none, .indexAddr 1 (.t 17) (.t 19)⟩,
    ⟨(some 21), none, .load false 1 (.t 20)⟩,
    ⟨(some 6), none, .move (.t 21)⟩] (some [0, 3, 5, 6]))
  (.seq (.ops [⟨(some 22), none, .move (.t 0)⟩,
    ⟨(some 23), none, .move (.t 0)⟩,
    ⟨(some 24), none, .nilCheck (.t 23)⟩,
    ⟨(some 25), none, .fieldAddr 1 (.t 24)⟩,
    ⟨(some 26), none, .load false 1 (.t 25)⟩,
    ⟨(some 27), none, .move (.t 5)⟩,
    ⟨(some 28), none, .bin .sub 3 (.t 27) (.c (.int .i64 1))⟩,
    ⟨(some 29), none, .slice 1 (.t 26) none (some (.t 28)) none⟩,
    ⟨(some 30), none, .nilCheck (.t 22)⟩,
    ⟨(some 31), none, .fieldAddr 1 (.t 30)⟩,
    ⟨none, none, .store 1 (.t 31) (.t 29)⟩] (some [0, 3, 6]))
  (.seq (.opsd [(0, 0, ⟨(some 32), none, .move (.t 0)⟩),
    (1, 1, ⟨(some 33), none, .nilCheck (.t 32)⟩),
    (2, 3, ⟨(some 34), none, .fieldAddr 0 (.t 33)⟩),
    (3, 7, ⟨(some 35), none, .load false 1 (.t 34)⟩),
    (4, 0, ⟨(some 36), none, .move (.t 6)⟩),
    (5, 0, ⟨(some 37), none, .load true 3 (.t 3)⟩),
    (6, 63, ⟨(some 38), none, .indexAddr 3 (.t 35) (.t 36)⟩),
    (7, 127, ⟨none, none, .store 3 (.t 38) (.t 37)⟩)] (some [6]))
  (.seq (.ops [⟨(some 39), none, .move (.t 6)⟩,
    ⟨(some 4), none, .move (.t 39)⟩] (some [4]))
  .ret))))
  .skip)))
 (.seq (.opsd [(0, 0, ⟨(some 40), none, .move (.t 0)⟩),
   (1, 0, ⟨(some 41), none, .move (.t 0)⟩),
   (2, 2, ⟨(some 42), none, .nilCheck (.t 41)⟩),
   (3, 6, ⟨(some 43), none, .fieldAddr 0 (.t 42)⟩),
   (4, 14, ⟨(some 44), none, .load false 1 (.t 43)⟩),
   (5, 0, ⟨(some 45), none, .load true 3 (.t 3)⟩),
   (6, 32, ⟨(some 46), none, .buildSlice [(.slice none 0 0), (.slice none 0 0), (.slice none 0 0)] 3 1 [(0, (.t 45))]⟩),
   (7, 126, ⟨(some 47), none, .append 3 72 [(.slice none 0 0), (.slice none 0 0), (.slice none 0 0)] (.t 44) (.t 46)⟩),
   (8, 255, ⟨(some 48), none, .nilCheck (.t 40)⟩),
   (9, 511, ⟨(some 49), none, .fieldAddr 0 (.t 48)⟩),
   (10, 1023, ⟨none, none, .store 1 (.t 49) (.t 47)⟩)] (some [0]))
 (.seq (.ops [⟨(some 50), none, .move (.t 0)⟩,
   ⟨(some 51), none, .nilCheck (.t 50)⟩,
   ⟨(some 52), none, .fieldAddr 0 (.t 51)⟩,
   ⟨(some 53), none, .load false 1 (.t 52)⟩,
   ⟨(some 54), none, .len (.t 53)⟩,
   ⟨(some 55), none, .bin .sub 3 (.t 54) (.c (.int .i64 1))⟩,
   ⟨(some 4), none, .move (.t 55)⟩] (some [4]))
 .ret)))), [.tmp 4]⟩

theorem is47 : FnIs Try.prog 47 x47 := ⟨Try.f47, _, Try.func47, by kernel_rfl, rfl, by kernel_rfl, by decide, by kernel_rfl⟩

/-- (*cloisonne/tree.Tree).put -/
def x48 : XDecl := .code ⟨4, 
 (.seq (.ops [⟨(some 15), none, .move (.t 0)⟩,
   ⟨(some 16), none, .nilCheck (.t 15)⟩,
   ⟨(some 17), none, .fieldAddr 0 (.t 16)⟩,
   ⟨(some 18), none, .load false 1 (.t 17)⟩,
   ⟨(some 19), none, .move (.t 1)⟩,
   ⟨(some 20), none, .indexAddr 3 (.t 18) (.t 19)⟩,
   ⟨(some 8), none, .move (.t 20)⟩] (some [0, 1, 2, 3, 8]))
 (.seq (.seq (.ops [⟨(some 21), none, .move (.t 8)⟩,
   ⟨(some 22), none, .call (.c (.func (.func 56) #[] #[])) [(.t 21)]⟩] (some [0, 1, 2, 3, 8, 22]))
 (.cond (.t 22)
  (.seq (.ops [⟨(some 24), none, .move (.t 8)⟩,
    ⟨(some 25), none, .nilCheck (.t 24)⟩,
    ⟨(some 26), none, .fieldAddr 0 (.t 25)⟩,
    ⟨(some 27), none, .load false 1 (.t 26)⟩,
    ⟨(some 28), none, .move (.t 2)⟩,
    ⟨(some 29), none, .call (.c (.func (.func 69) #[] #[])) [(.t 27), (.t 28)]⟩,
    ⟨(some 23), none, .move (.t 29)⟩,
    ⟨(some 30), none, .extract (.t 23) 0⟩,
    ⟨(some 31), none, .extract (.t 23) 1⟩,
    ⟨(some 9), none, .move (.t 30)⟩,
    ⟨(some 10), none, .move (.t 31)⟩] (some [2, 3, 8, 9]))
  (.seq (.opsd [(0, 0, ⟨(some 32), none, .move (.t 8)⟩),
    (1, 0, ⟨(some 33), none, .move (.t 8)⟩),
    (2, 0, ⟨(some 34), none, .move (.t 8)⟩),
    (3, 4, ⟨(some 35), none, .nilCheck (.t 34)⟩),
    (4, 12, ⟨(some 36), none, .fieldAddr 0 (.t 35)⟩),
    (5, 28, ⟨(some 37), none, .load false 1 (.t 36)⟩),
    (6, 0, ⟨(some 38), none, .move (.t 9)⟩),
    (7, 0, ⟨(some 39), none, .move (.t 2)⟩),
    (8, 128, ⟨(some 40), none, .buildSlice [(.string .empty)] 1 1 [(0, (.t 39))]⟩),
    (10, 0, ⟨(some 42), none, .move (.t 8)⟩),
    (11, 1024, ⟨(some 43), none, .nilCheck (.t 42)⟩),
    (12, 3072, ⟨(some 44), none, .fieldAddr 1 (.t 43)⟩),
    (13, 7168, ⟨(some 45), none, .load false 1 (.t 44)⟩),
    (14, 0, ⟨(some 46), none, .move (.t 9)⟩),
    (15, 0, ⟨(some 47), none, .move (.t 3)⟩),
    (16, 32768, ⟨(some 48), none, .buildSlice [(.int .i64 0)] 1 1 [(0, (.t 47))]⟩),
    (9, 508, ⟨(some 41), none, .call (.c (.func (.func 70) #[] #[])) [(.t 37), (.t 38), (.t 40)]⟩),
    (17, 131068, ⟨(some 49), none, .call (.c (.func (.func 71) #[] #[])) [(.t 45), (.t 46), (.t 48)]⟩),
    (18, 262141, ⟨(some 50), none, .nilCheck (.t 32)⟩),
    (19, 524285, ⟨(some 51), none, .fieldAddr 0 (.t 50)⟩),
    (20, 1048573, ⟨none, none, .store 1 (.t 51) (.t 41)⟩),
    (21, 2097151, ⟨(some 52), none, .nilCheck (.t 33)⟩),
    (22, 4194303, ⟨(some 53), none, .fieldAddr 1 (.t 52)⟩),
    (23, 8388607, ⟨none, none, .store 1 (.t 53) (.t 49)⟩)] (some []))
  .ret))
  .skip))
 (.seq (.ops [⟨(some 54), none, .move (.t 8)⟩,
   ⟨(some 55), none, .move (.t 2)⟩,
   ⟨(some 56), none, .call (.c (.func (.func 68) #[] #[])) [(.t 54), (.t 55)]⟩,
   ⟨(some 11), none, .move (.t 56)⟩] (some [0, 1, 2, 3, 8, 11]))
 (.seq (.ops [⟨(some 57), none, .move (.t 8)⟩,
   ⟨(some 58), none, .nilCheck (.t 57)⟩,
   ⟨(some 59), none, .fieldAddr 2 (.t 58)⟩,
   ⟨(some 60), none, .load false 1 (.t 59)⟩,
   ⟨(some 61), none, .move (.t 11)⟩,
   ⟨(some 62), none, .indexAddr 1 (.t 60) (.t 61)⟩,
   ⟨(some 63), none, .load false 1 (.t 62)⟩,
   ⟨(some 12), none, .move (.t 63)⟩] (some [0, 1, 2, 3, 11, 12]))
 (.seq (.ops [⟨(some 64), none, .move (.t 0)⟩,
   ⟨(some 65), none, .move (.t 12)⟩,
   ⟨(some 66), none, .move (.t 2)⟩,
   ⟨(some 67), none, .move (.t 3)⟩,
   ⟨(some 68), none, .call (.c (.func (.func 48) #[] #[])) [(.t 64), (.t 65), (.t 66), (.t 67)]⟩] (some [0, 1, 11, 12]))
 (.seq (.ops [⟨(some 69), none, .move (.t 0)⟩,
   ⟨(some 70), none, .nilCheck (.t 69)⟩,
   ⟨(some 71), none, .fieldAddr 0 (.t 70)⟩,
   ⟨(some 72), none, .load false 1 (.t 71)⟩,
   ⟨(some 73), none, .move (.t 12)⟩,
   ⟨(some 74), none, .indexAddr 3 (.t 72) (.t 73)⟩,
   ⟨(some 75), none, .call (.c (.func (.func 49) #[] #[])) [(.t 74)]⟩,
   ⟨(some 76), none, .bin .gtr 3 (.t 75) (.c (.int .i64 4))⟩] (some [0, 1, 11, 12, 76]))
 (.cond (.t 76)
  (.seq (.ops [⟨(some 78), none, .move (.t 0)⟩,
    ⟨(some 79), none, .move (.t 12)⟩,
    ⟨(some 80), none, .call (.c (.func (.func 50) #[] #[])) [(.t 78), (.t 79)]⟩,
    ⟨(some 77), none, .move (.t 80)⟩,
    ⟨(some 81), none, .extract (.t 77) 0⟩,
    ⟨(some 82), none, .extract (.t 77) 1⟩,
    ⟨(some 13), none, .move (.t 81)⟩,
    ⟨(some 14), none, .move (.t 82)⟩] (some [0, 1, 11, 13, 14]))
  (.seq (.ops [⟨(some 83), none, .move (.t 0)⟩,
    ⟨(some 84), none, .nilCheck (.t 83)⟩,
    ⟨(some 85), none, .fieldAddr 0 (.t 84)⟩,
    ⟨(some 86), none, .load false 1 (.t 85)⟩,
    ⟨(some 87), none, .move (.t 1)⟩,
    ⟨(some 88), none, .indexAddr 3 (.t 86) (.t 87)⟩,
    ⟨(some 8), none, .move (.t 88)⟩] (some [8, 11, 13, 14]))
  (.opsd [(0, 0, ⟨(some 89), none, .move (.t 8)⟩),
    (1, 0, ⟨(some 90), none, .move (.t 8)⟩),
    (2, 0, ⟨(some 91), none, .move (.t 8)⟩),
    (3, 4, ⟨(some 92), none, .nilCheck (.t 91)⟩),
    (4, 12, ⟨(some 93), none, .fieldAddr 0 (.t 92)⟩),
    (5, 28, ⟨(some 94), none, .load false 1 (.t 93)⟩),
    (6, 0, ⟨(some 95), none, .move (.t 11)⟩),
    (7, 0, ⟨(some 96), none, .move (.t 14)⟩),
    (8, 128, ⟨(some 97), none, .buildSlice [(.string .empty)] 1 1 [(0, (.t 96))]⟩),
    (10, 0, ⟨(some 99), none, .move (.t 8)⟩),
    (11, 1024, ⟨(some 100), none, .nilCheck (.t 99)⟩),
    (12, 3072, ⟨(some 101), none, .fieldAddr 2 (.t 100)⟩),
    (13, 7168, ⟨(some 102), none, .load false 1 (.t 101)⟩),
    (14, 0, ⟨(some 103), none, .move (.t 11)⟩),
    (15, 16384, ⟨(some 104), none, .bin .add 3 (.t 103) (.c (.int .i64 1))⟩),
    (16, 0, ⟨(some 105), none, .move (.t 13)⟩),
    (17, 65536, ⟨(some 106), none, .buildSlice [(.int .i64 0)] 1 1 [(0, (.t 105))]⟩),
    (9, 508, ⟨(some 98), none, .call (.c (.func (.func 70) #[] #[])) [(.t 94), (.t 95), (.t 97)]⟩),
    (18, 262140, ⟨(some 107), none, .call (.c (.func (.func 71) #[] #[])) [(.t 102), (.t 104), (.t 106)]⟩),
    (19, 524285, ⟨(some 108), none, .nilCheck (.t 89)⟩),
    (20, 1048573, ⟨(some 109), none, .fieldAddr 0 (.t 108)⟩),
    (21, 2097149, ⟨none, none, .store 1 (.t 109) (.t 98)⟩),
    (22, 4194303, ⟨(some 110), none, .nilCheck (.t 90)⟩),
    (23, 8388607, ⟨(some 111), none, .fieldAddr 2 (.t 110)⟩),
    (24, 16777215, ⟨none, none, .store 1 (.t 111) (.t 107)⟩)] (some []))))
  .skip))))))), []⟩

theorem is48 : FnIs Try.prog 48 x48 := ⟨Try.f48, _, Try.func48, by kernel_rfl, rfl, by kernel_rfl, by decide, by kernel_rfl⟩

/-- (*cloisonne/tree.node).size -/
def x49 : XDecl := .code ⟨1, 
 (.seq (.ops [⟨(some 2), none, .move (.c (.int .i64 0))⟩] (some [0]))
 (.seq (.seq (.ops [⟨(some 3), none, .move (.t 0)⟩,
   ⟨(some 4), none, .call (.c (.func (.func 56) #[] #[])) [(.t 3)]⟩] (some [0, 4]))
 (.cond (.t 4)
  (.seq (.ops [⟨(some 5), none, .move (.t 0)⟩,
    ⟨(some 6), none, .nilCheck (.t 5)⟩,
    ⟨(some 7), none, .fieldAddr 0 (.t 6)⟩,
    ⟨(some 8), none, .load false 1 (.t 7)⟩,
    ⟨(some 9), none, .len (.t 8)⟩,
    ⟨(some 2), none, .move (.t 9)⟩] (some [2]))
  .ret)
  .skip))
 (.seq (.ops [⟨(some 10), none, .move (.t 0)⟩,
   ⟨(some 11), none, .nilCheck (.t 10)⟩,
   ⟨(some 12), none, .fieldAddr 2 (.t 11)⟩,
   ⟨(some 13), none, .load false 1 (.t 12)⟩,
   ⟨(some 14), none, .len (.t 13)⟩,
   ⟨(some 2), none, .move (.t 14)⟩] (some [2]))
 .ret))), [.tmp 2]⟩

theorem is49 : FnIs Try.prog 49 x49 := ⟨Try.f49, _, Try.func49, by kernel_rfl, rfl, by kernel_rfl, by decide, by kernel_rfl⟩

/-- (*cloisonne/tree.Tree).split -/
def x50 : XDecl := .code ⟨2, 
 (.seq (.ops [⟨(some 4), none, .move (.c (.int .i64 0))⟩,
   ⟨(some 5), none, .move (.c (.string .empty))⟩] (some [0, 1]))
 (.seq (.ops [⟨(some 10), none, .move (.t 0)⟩,
   ⟨(some 11), none, .nilCheck (.t 10)⟩,
   ⟨(some 12), none, .fieldAddr 0 (.t 11)⟩,
   ⟨(some 13), none, .load false 1 (.t 12)⟩,
   ⟨(some 14), none, .move (.t 1)⟩,
   ⟨(some 15), none, .indexAddr 3 (.t 13) (.t 14)⟩,
   ⟨(some 16), none, .load true 3 (.t 15)⟩,
   ⟨(some 6), none, .alloc [(.slice none 0 0), (.slice none 0 0), (.slice none 0 0)]⟩,
   ⟨none, none, .store 3 (.t 6) (.t 16)⟩] (some [0, 1, 6]))
 (.seq (.ops [⟨(some 17), none, .call (.c (.func (.func 49) #[] #[])) [(.t 6)]⟩,
   ⟨(some 18), none, .bin .quo 3 (.t 17) (.c (.int .i64 2))⟩,
   ⟨(some 7), none, .move (.t 18)⟩] (some [0, 1, 6, 7]))
 (.seq (.seq (.ops [⟨(some 19), none, .call (.c (.func (.func 56) #[] #[])) [(.t 6)]⟩] (some [0, 1, 6, 7, 19]))
 (.cond (.t 19)
  (.seq (.opsd [(0, 0, ⟨(some 20), none, .move (.t 0)⟩),
    (1, 0, ⟨(some 21), none, .fieldAddr 0 (.t 6)⟩),
    (2, 2, ⟨(some 22), none, .load false 1 (.t 21)⟩),
    (3, 0, ⟨(some 23), none, .move (.t 7)⟩),
    (4, 14, ⟨(some 24), none, .slice 1 (.t 22) (some (.t 23)) none none⟩),
    (6, 0, ⟨(some 26), none, .fieldAddr 1 (.t 6)⟩),
    (7, 64, ⟨(some 27), none, .load false 1 (.t 26)⟩),
    (8, 0, ⟨(some 28), none, .move (.t 7)⟩),
    (9, 448, ⟨(some 29), none, .slice 1 (.t 27) (some (.t 28)) none none⟩),
    (5, 30, ⟨(some 25), none, .call (.c (.func (.func 72) #[] #[])) [(.t 24)]⟩),
    (10, 1022, ⟨(some 30), none, .call (.c (.func (.func 73) #[] #[])) [(.t 29)]⟩),
    (11, 2046, ⟨(some 31), none, .build [(.slice none 0 0), (.slice none 0 0), (.slice none 0 0)] [(0, 1), (1, 1), (2, 1)] [(0, (.t 25)), (1, (.t 30))]⟩),
    (12, 4095, ⟨(some 32), none, .call (.c (.func (.func 47) #[] #[])) [(.t 20), (.t 31)]⟩),
    (13, 8191, ⟨(some 8), none, .move (.t 32)⟩)] (some [0, 1, 6, 7, 8]))
  (.seq (.opsd [(0, 0, ⟨(some 33), none, .move (.t 0)⟩),
    (1, 1, ⟨(some 34), none, .nilCheck (.t 33)⟩),
    (2, 3, ⟨(some 35), none, .fieldAddr 0 (.t 34)⟩),
    (3, 7, ⟨(some 36), none, .load false 1 (.t 35)⟩),
    (4, 0, ⟨(some 37), none, .move (.t 1)⟩),
    (5, 0, ⟨(some 38), none, .move (.t 0)⟩),
    (6, 32, ⟨(some 39), none, .nilCheck (.t 38)⟩),
    (7, 96, ⟨(some 40), none, .fieldAddr 0 (.t 39)⟩),
    (8, 224, ⟨(some 41), none, .load false 1 (.t 40)⟩),
    (9, 0, ⟨(some 42), none, .move (.t 1)⟩),
    (10, 0, ⟨(some 43), none, .fieldAddr 0 (.t 6)⟩),
    (11, 1024, ⟨(some 44), none, .load false 1 (.t 43)⟩),
    (12, 0, ⟨(some 45), none, .move (.t 7)⟩),
    (13, 0, ⟨(some 46), none, .move (.t 7)⟩),
    (14, 15360, ⟨(some 47), none, .slice 1 (.t 44) none (some (.t 45)) (some (.t 46))⟩),
    (15, 0, ⟨(some 48), none, .fieldAddr 1 (.t 6)⟩),
    (16, 32768, ⟨(some 49), none, .load false 1 (.t 48)⟩),
    (17, 0, ⟨(some 50), none, .move (.t 7)⟩),
    (18, 0, ⟨(some 51), none, .move (.t 7)⟩),
    (19, 491520, ⟨(some 52), none, .slice 1 (.t 49) none (some (.t 50)) (some (.t 51))⟩),
    (20, 130559, ⟨(some 53), none, .indexAddr 3 (.t 36) (.t 37)⟩),
    (21, 1179135, ⟨(some 54), none, .fieldAddr 0 (.t 53)⟩),
    (22, 3276287, ⟨none, none, .store 1 (.t 54) (.t 47)⟩),
    (23, 8388607, ⟨(some 55), none, .indexAddr 3 (.t 41) (.t 42)⟩),
    (24, 16777215, ⟨(some 56), none, .fieldAddr 1 (.t 55)⟩),
    (25, 33554431, ⟨none, none, .store 1 (.t 56) (.t 52)⟩)] (some [6, 7, 8]))
  (.seq (.opsr [⟨(some 57), none, .move (.t 8)⟩,
    ⟨(some 58), none, .fieldAddr 0 (.t 6)⟩,
    ⟨(some 59), none, .load false 1 (.t 58)⟩,
    ⟨(some 60), none, .move (.t 7)⟩,
    ⟨(some 61), none, .indexAddr 1 (.t 59) (.t 60)⟩,
    ⟨(some 62), none, .load false 1 (.t 61)⟩,
    ⟨(some 4), none, .move (.t 57)⟩,
    ⟨(some 5), none, .move (.t 62)⟩] (some [4, 5]))
  .ret)))
  .skip))
 (.seq (.opsd [(0, 0, ⟨(some 63), none, .move (.t 0)⟩),
   (1, 0, ⟨(some 64), none, .fieldAddr 0 (.t 6)⟩),
   (2, 2, ⟨(some 65), none, .load false 1 (.t 64)⟩),
   (3, 0, ⟨(some 66), none, .move (.t 7)⟩),
   (4, 14, ⟨(some 67), none, .slice 1 (.t 65) (some (.t 66)) none none⟩),
   (6, 0, ⟨(some 69), none, .fieldAddr 2 (.t 6)⟩),
   (7, 64, ⟨(some 70), none, .load false 1 (.t 69)⟩),
   (8, 0, ⟨(some 71), none, .move (.t 7)⟩),
   (9, 448, ⟨(some 72), none, .slice 1 (.t 70) (some (.t 71)) none none⟩),
   (5, 30, ⟨(some 68), none, .call (.c (.func (.func 72) #[] #[])) [(.t 67)]⟩),
   (10, 1022, ⟨(some 73), none, .call (.c (.func (.func 73) #[] #[])) [(.t 72)]⟩),
   (11, 2046, ⟨(some 74), none, .build [(.slice none 0 0), (.slice none 0 0), (.slice none 0 0)] [(0, 1), (1, 1), (2, 1)] [(0, (.t 68)), (2, (.t 73))]⟩),
   (12, 4095, ⟨(some 75), none, .call (.c (.func (.func 47) #[] #[])) [(.t 63), (.t 74)]⟩),
   (13, 8191, ⟨(some 9), none, .move (.t 75)⟩)] (some [0, 1, 6, 7, 9]))
 (.seq (.opsd [(0, 0, ⟨(some 76), none, .move (.t 0)⟩),
   (1, 1, ⟨(some 77), none, .nilCheck (.t 76)⟩),
   (2, 3, ⟨(some 78), none, .fieldAddr 0 (.t 77)⟩),
   (3, 7, ⟨(some 79), none, .load false 1 (.t 78)⟩),
   (4, 0, ⟨(some 80), none, .move (.t 1)⟩),
   (5, 0, ⟨(some 81), none, .move (.t 0)⟩),
   (6, 32, ⟨(some 82), none, .nilCheck (.t 81)⟩),
   (7, 96, ⟨(some 83), none, .fieldAddr 0 (.t 82)⟩),
   (8, 224, ⟨(some 84), none, .load false 1 (.t 83)⟩),
   (9, 0, ⟨(some 85), none, .move (.t 1)⟩),
   (10, 0, ⟨(some 86), none, .fieldAddr 0 (.t 6)⟩),
   (11, 1024, ⟨(some 87), none, .load false 1 (.t 86)⟩),
   (12, 0, ⟨(some 88), none, .move (.t 7)⟩),
   (13, 4096, ⟨(some 89), none, .bin .sub 3 (.t 88) (.c (.int .i64 1))⟩),
   (14, 0, ⟨(some 90), none, .move (.t 7)⟩),
   (15, 16384, ⟨(some 91), none, .bin .sub 3 (.t 90) (.c (.int .i64 1))⟩),
   (16, 64512, ⟨(some 92), none, .slice 1 (.t 87) none (some (.t 89)) (some (.t 91))⟩),
   (17, 0, ⟨(some 93), none, .fieldAddr 2 (.t 6)⟩),
   (18, 131072, ⟨(some 94), none, .load false 1 (.t 93)⟩),
   (19, 0, ⟨(some 95), none, .move (.t 7)⟩),
   (20, 0, ⟨(some 96), none, .move (.t 7)⟩),
   (21, 1966080, ⟨(some 97), none, .slice 1 (.t 94) none (some (.t 95)) (some (.t 96))⟩),
   (22, 523775, ⟨(some 98), none, .indexAddr 3 (.t 79) (.t 80)⟩),
   (23, 4718079, ⟨(some 99), none, .fieldAddr 0 (.t 98)⟩),
   (24, 13106687, ⟨none, none, .store 1 (.t 99) (.t 92)⟩),
   (25, 33554431, ⟨(some 100), none, .indexAddr 3 (.t 84) (.t 85)⟩),
   (26, 67108863, ⟨(some 101), none, .fieldAddr 2 (.t 100)⟩),
   (27, 134217727, ⟨none, none, .store 1 (.t 101) (.t 97)⟩)] (some [6, 7, 9]))
 (.seq (.opsr [⟨(some 102), none, .move (.t 9)⟩,
   ⟨(some 103), none, .fieldAddr 0 (.t 6)⟩,
   ⟨(some 104), none, .load false 1 (.t 103)⟩,
   ⟨(some 105), none, .move (.t 7)⟩,
   ⟨(some 106), none, .bin .sub 3 (.t 105) (.c (.int .i64 1))⟩,
   ⟨(some 107), none, .indexAddr 1 (.t 104) (.t 106)⟩,
   ⟨(some 108), none, .load false 1 (.t 107)⟩,
   ⟨(some 4), none, .move (.t 102)⟩,
   ⟨(some 5), none, .move (.t 108)⟩] (some [4, 5]))
 .ret))))))), [.tmp 4, .tmp 5]⟩

theorem is50 : FnIs Try.prog 50 x50 := ⟨Try.f50, _, Try.func50, by kernel_rfl, rfl, by kernel_rfl, by decide, by kernel_rfl⟩

/-- (*cloisonne/tree.Tree).some -/
def x51 : XDecl := .code ⟨1, 
 (.seq (.ops [⟨(some 2), none, .move (.c (.bool false))⟩] (some [0]))
 (.seq (.ops [⟨(some 3), none, .move (.t 0)⟩,
   ⟨(some 4), none, .isNil .ptr true (.t 3)⟩,
   ⟨(some 5), none, .move (.t 4)⟩,
   ⟨(some 6), (some (5, true)), .move (.t 0)⟩,
   ⟨(some 7), (some (5, true)), .nilCheck (.t 6)⟩,
   ⟨(some 8), (some (5, true)), .fieldAddr 2 (.t 7)⟩,
   ⟨(some 9), (some (5, true)), .load false 1 (.t 8)⟩,
   ⟨(some 10), (some (5, true)), .bin .geq 3 (.t 9) (.c (.int .i64 0))⟩,
   ⟨(some 11), none, .pick (.t 5) (.t 10) (.c (.bool false))⟩,
   ⟨(some 2), none, .move (.t 11)⟩] (some [2]))
 .ret)), [.tmp 2]⟩

theorem is51 : FnIs Try.prog 51 x51 := ⟨Try.f51, _, Try.func51, by kernel_rfl, rfl, by kernel_rfl, by decide, by kernel_rfl⟩

/-- (*cloisonne/tree.Tree).first -/
def x52 : XDecl := .code ⟨4, 
 (.seq (.ops [⟨(some 8), none, .move (.c (.string .empty))⟩,
   ⟨(some 9), none, .move (.c (.int .i64 0))⟩,
   ⟨(some 10), none, .move (.c (.bool false))⟩] (some [0, 1, 2, 3]))
 (.seq (.ops [⟨(some 18), none, .move (.t 0)⟩,
   ⟨(some 19), none, .nilCheck (.t 18)⟩,
   ⟨(some 20), none, .fieldAddr 0 (.t 19)⟩,
   ⟨(some 21), none, .load false 1 (.t 20)⟩,
   ⟨(some 22), none, .move (.t 1)⟩,
   ⟨(some 23), none, .indexAddr 3 (.t 21) (.t 22)⟩,
   ⟨(some 11), none, .move (.t 23)⟩] (some [0, 2, 3, 11]))
 (.seq (.seq (.ops [⟨(some 24), none, .move (.t 11)⟩,
   ⟨(some 25), none, .call (.c (.func (.func 56) #[] #[])) [(.t 24)]⟩] (some [0, 2, 3, 11, 25]))
 (.cond (.t 25)
  (.seq (.ops [⟨(some 27), none, .move (.t 11)⟩,
    ⟨(some 28), none, .nilCheck (.t 27)⟩,
    ⟨(some 29), none, .fieldAddr 0 (.t 28)⟩,
    ⟨(some 30), none, .load false 1 (.t 29)⟩,
    ⟨(some 31), none, .move (.t 2)⟩,
    ⟨(some 32), none, .call (.c (.func (.func 69) #[] #[])) [(.t 30), (.t 31)]⟩,
    ⟨(some 26), none, .move (.t 32)⟩,
    ⟨(some 33), none, .extract (.t 26) 0⟩,
    ⟨(some 34), none, .extract (.t 26) 1⟩,
    ⟨(some 12), none, .move (.t 33)⟩,
    ⟨(some 13), none, .move (.t 34)⟩] (some [3, 11, 12, 13]))
  (.seq (.seq (.ops [⟨(some 35), none, .move (.t 13)⟩,
    ⟨(some 36), none, .move (.t 35)⟩,
    ⟨(some 37), (some (36, true)), .move (.t 3)⟩,
    ⟨(some 38), none, .pick (.t 36) (.t 37) (.c (.bool false))⟩] (some [11, 12, 38]))
  (.cond (.t 38)
   (.ops [⟨(some 39), none, .move (.t 12)⟩,
     ⟨(some 40), none, .bin .add 3 (.t 39) (.c (.int .i64 1))⟩,
     ⟨(some 12), none, .move (.t 40)⟩] (some [11, 12]))
   .skip))
  (.seq (.seq (.ops [⟨(some 41), none, .move (.t 12)⟩,
    ⟨(some 42), none, .move (.t 11)⟩,
    ⟨(some 43), none, .nilCheck (.t 42)⟩,
    ⟨(some 44), none, .fieldAddr 0 (.t 43)⟩,
    ⟨(some 45), none, .load false 1 (.t 44)⟩,
    ⟨(some 46), none, .len (.t 45)⟩,
    ⟨(some 47), none, .bin .geq 3 (.t 41) (.t 46)⟩] (some [11, 12, 47]))
  (.cond (.t 47)
   (.seq (.ops [⟨(some 8), none, .move (.c (.string .empty))⟩,
     ⟨(some 9), none, .move (.c (.int .i64 0))⟩,
     ⟨(some 10), none, .move (.c (.bool false))⟩] (some [8, 9, 10]))
   .ret)
   .skip))
  (.seq (.opsr [⟨(some 48), none, .move (.t 11)⟩,
    ⟨(some 49), none, .nilCheck (.t 48)⟩,
    ⟨(some 50), none, .fieldAddr 0 (.t 49)⟩,
    ⟨(some 51), none, .load false 1 (.t 50)⟩,
    ⟨(some 52), none, .move (.t 12)⟩,
    ⟨(some 53), none, .indexAddr 1 (.t 51) (.t 52)⟩,
    ⟨(some 54), none, .load false 1 (.t 53)⟩,
    ⟨(some 55), none, .move (.t 11)⟩,
    ⟨(some 56), none, .nilCheck (.t 55)⟩,
    ⟨(some 57), none, .fieldAddr 1 (.t 56)⟩,
    ⟨(some 58), none, .load false 1 (.t 57)⟩,
    ⟨(some 59), none, .move (.t 12)⟩,
    ⟨(some 60), none, .indexAddr 1 (.t 58) (.t 59)⟩,
    ⟨(some 61), none, .load false 1 (.t 60)⟩,
    ⟨(some 8), none, .move (.t 54)⟩,
    ⟨(some 9), none, .move (.t 61)⟩,
    ⟨(some 10), none, .move (.c (.bool true))⟩] (some [8, 9, 10]))
  .ret))))
  .skip))
 (.seq (.ops [⟨(some 62), none, .move (.t 11)⟩,
   ⟨(some 63), none, .move (.t 2)⟩,
   ⟨(some 64), none, .call (.c (.func (.func 68) #[] #[])) [(.t 62), (.t 63)]⟩,
   ⟨(some 14), none, .move (.t 64)⟩] (some [0, 2, 3, 11, 14]))
 (.seq (.seq (.ops [⟨(some 66), none, .move (.t 0)⟩,
   ⟨(some 67), none, .move (.t 11)⟩,
   ⟨(some 68), none, .nilCheck (.t 67)⟩,
   ⟨(some 69), none, .fieldAddr 2 (.t 68)⟩,
   ⟨(some 70), none, .load false 1 (.t 69)⟩,
   ⟨(some 71), none, .move (.t 14)⟩,
   ⟨(some 72), none, .indexAddr 1 (.t 70) (.t 71)⟩,
   ⟨(some 73), none, .load false 1 (.t 72)⟩,
   ⟨(some 74), none, .move (.t 2)⟩,
   ⟨(some 75), none, .move (.t 3)⟩,
   ⟨(some 76), none, .call (.c (.func (.func 52) #[] #[])) [(.t 66), (.t 73), (.t 74), (.t 75)]⟩,
   ⟨(some 65), none, .move (.t 76)⟩,
   ⟨(some 77), none, .extract (.t 65) 0⟩,
   ⟨(some 78), none, .extract (.t 65) 1⟩,
   ⟨(some 79), none, .extract (.t 65) 2⟩,
   ⟨(some 15), none, .move (.t 77)⟩,
   ⟨(some 16), none, .move (.t 78)⟩,
   ⟨(some 17), none, .move (.t 79)⟩] (some [0, 11, 14, 15, 16, 17]))
 (.seq (.ops [⟨(some 80), none, .move (.t 17)⟩] (some [0, 11, 14, 15, 16, 80]))
 (.cond (.t 80)
  (.seq (.ops [⟨(some 81), none, .move (.t 15)⟩,
    ⟨(some 82), none, .move (.t 16)⟩,
    ⟨(some 8), none, .move (.t 81)⟩,
    ⟨(some 9), none, .move (.t 82)⟩,
    ⟨(some 10), none, .move (.c (.bool true))⟩] (some [8, 9, 10]))
  .ret)
  .skip)))
 (.seq (.seq (.ops [⟨(some 83), none, .move (.t 14)⟩,
   ⟨(some 84), none, .bin .add 3 (.t 83) (.c (.int .i64 1))⟩,
   ⟨(some 85), none, .move (.t 11)⟩,
   ⟨(some 86), none, .nilCheck (.t 85)⟩,
   ⟨(some 87), none, .fieldAddr 2 (.t 86)⟩,
   ⟨(some 88), none, .load false 1 (.t 87)⟩,
   ⟨(some 89), none, .len (.t 88)⟩,
   ⟨(some 90), none, .bin .lss 3 (.t 84) (.t 89)⟩] (some [0, 11, 14, 90]))
 (.cond (.t 90)
  (.seq (.ops [⟨(some 91), none, .move (.t 0)⟩,
    ⟨(some 92), none, .move (.t 11)⟩,
    ⟨(some 93), none, .nilCheck (.t 92)⟩,
    ⟨(some 94), none, .fieldAddr 2 (.t 93)⟩,
    ⟨(some 95), none, .load false 1 (.t 94)⟩,
    ⟨(some 96), none, .move (.t 14)⟩,
    ⟨(some 97), none, .bin .add 3 (.t 96) (.c (.int .i64 1))⟩,
    ⟨(some 98), none, .indexAddr 1 (.t 95) (.t 97)⟩,
    ⟨(some 99), none, .load false 1 (.t 98)⟩,
    ⟨(some 100), none, .call (.c (.func (.func 74) #[] #[])) [(.t 91), (.t 99), (.c (.bool false))]⟩,
    ⟨(some 101), none, .extract (.t 100) 0⟩,
    ⟨(some 102), none, .extract (.t 100) 1⟩,
    ⟨(some 103), none, .extract (.t 100) 2⟩,
    ⟨(some 8), none, .move (.t 101)⟩,
    ⟨(some 9), none, .move (.t 102)⟩,
    ⟨(some 10), none, .move (.t 103)⟩] (some [8, 9, 10]))
  .ret)
  .skip))
 (.seq (.ops [⟨(some 8), none, .move (.c (.string .empty))⟩,
   ⟨(some 9), none, .move (.c (.int .i64 0))⟩,
   ⟨(some 10), none, .move (.c (.bool false))⟩] (some [8, 9, 10]))
 .ret))))))), [.tmp 8, .tmp 9, .tmp 10]⟩

theorem is52 : FnIs Try.prog 52 x52 := ⟨Try.f52, _, Try.func52, by kernel_rfl, rfl, by kernel_rfl, by decide, by kernel_rfl⟩

/-- (*cloisonne/tree.Tree).Get -/
def x53 : XDecl := .code ⟨2, 
 (.seq (.ops [⟨(some 4), none, .move (.c (.int .i64 0))⟩,
   ⟨(some 5), none, .move (.c (.bool false))⟩] (some [0, 1]))
 (.seq (.ops [⟨(some 10), none, .move (.t 0)⟩,
   ⟨(some 11), none, .move (.t 1)⟩,
   ⟨(some 12), none, .call (.c (.func (.func 46) #[] #[])) [(.t 10), (.t 11)]⟩,
   ⟨(some 9), none, .move (.t 12)⟩,
   ⟨(some 13), none, .extract (.t 9) 0⟩,
   ⟨(some 14), none, .extract (.t 9) 1⟩,
   ⟨(some 15), none, .extract (.t 9) 2⟩,
   ⟨(some 6), none, .move (.t 13)⟩,
   ⟨(some 7), none, .move (.t 14)⟩,
   ⟨(some 8), none, .move (.t 15)⟩] (some [6, 7, 8]))
 (.seq (.seq (.ops [⟨(some 16), none, .move (.t 8)⟩,
   ⟨(some 17), none, .un .not (.t 16)⟩] (some [6, 7, 17]))
 (.cond (.t 17)
  (.seq (.ops [⟨(some 4), none, .move (.c (.int .i64 0))⟩,
    ⟨(some 5), none, .move (.c (.bool false))⟩] (some [4, 5]))
  .ret)
  .skip))
 (.seq (.ops [⟨(some 18), none, .move (.t 6)⟩,
   ⟨(some 19), none, .nilCheck (.t 18)⟩,
   ⟨(some 20), none, .fieldAddr 1 (.t 19)⟩,
   ⟨(some 21), none, .load false 1 (.t 20)⟩,
   ⟨(some 22), none, .move (.t 7)⟩,
   ⟨(some 23), none, .indexAddr 1 (.t 21) (.t 22)⟩,
   ⟨(some 24), none, .load false 1 (.t 23)⟩,
   ⟨(some 4), none, .move (.t 24)⟩,
   ⟨(some 5), none, .move (.c (.bool true))⟩] (some [4, 5]))
 .ret)))), [.tmp 4, .tmp 5]⟩

theorem is53 : FnIs Try.prog 53 x53 := ⟨Try.f53, _, Try.func53, by kernel_rfl, rfl, by kernel_rfl, by decide, by kernel_rfl⟩

/-- (*cloisonne/tree.Tree).del -/
def x54 : XDecl := .code ⟨3, 
 (.seq (.ops [⟨(some 10), none, .move (.t 0)⟩,
   ⟨(some 11), none, .nilCheck (.t 10)⟩,
   ⟨(some 12), none, .fieldAddr 0 (.t 11)⟩,
   ⟨(some 13), none, .load false 1 (.t 12)⟩,
   ⟨(some 14), none, .move (.t 1)⟩,
   ⟨(some 15), none, .indexAddr 3 (.t 13) (.t 14)⟩,
   ⟨(some 6), none, .move (.t 15)⟩] (some [0, 2, 6]))
 (.seq (.seq (.ops [⟨(some 16), none, .move (.t 6)⟩,
   ⟨(some 17), none, .call (.c (.func (.func 56) #[] #[])) [(.t 16)]⟩] (some [0, 2, 6, 17]))
 (.cond (.t 17)
  (.seq (.ops [⟨(some 19), none, .move (.t 6)⟩,
    ⟨(some 20), none, .nilCheck (.t 19)⟩,
    ⟨(some 21), none, .fieldAddr 0 (.t 20)⟩,
    ⟨(some 22), none, .load false 1 (.t 21)⟩,
    ⟨(some 23), none, .move (.t 2)⟩,
    ⟨(some 24), none, .call (.c (.func (.func 69) #[] #[])) [(.t 22), (.t 23)]⟩,
    ⟨(some 18), none, .move (.t 24)⟩,
    ⟨(some 25), none, .extract (.t 18) 0⟩,
    ⟨(some 26), none, .extract (.t 18) 1⟩,
    ⟨(some 7), none, .move (.t 25)⟩,
    ⟨(some 8), none, .move (.t 26)⟩] (some [6, 7]))
  (.seq (.opsd [(0, 0, ⟨(some 27), none, .move (.t 6)⟩),
    (1, 0, ⟨(some 28), none, .move (.t 6)⟩),
    (2, 0, ⟨(some 29), none, .move (.t 6)⟩),
    (3, 4, ⟨(some 30), none, .nilCheck (.t 29)⟩),
    (4, 12, ⟨(some 31), none, .fieldAddr 0 (.t 30)⟩),
    (5, 28, ⟨(some 32), none, .load false 1 (.t 31)⟩),
    (6, 0, ⟨(some 33), none, .move (.t 7)⟩),
    (7, 0, ⟨(some 34), none, .move (.t 7)⟩),
    (8, 128, ⟨(some 35), none, .bin .add 3 (.t 34) (.c (.int .i64 1))⟩),
    (10, 0, ⟨(some 37), none, .move (.t 6)⟩),
    (11, 1024, ⟨(some 38), none, .nilCheck (.t 37)⟩),
    (12, 3072, ⟨(some 39), none, .fieldAddr 1 (.t 38)⟩),
    (13, 7168, ⟨(some 40), none, .load false 1 (.t 39)⟩),
    (14, 0, ⟨(some 41), none, .move (.t 7)⟩),
    (15, 0, ⟨(some 42), none, .move (.t 7)⟩),
    (16, 32768, ⟨(some 43), none, .bin .add 3 (.t 42) (.c (.int .i64 1))⟩),
    (9, 508, ⟨(some 36), none, .call (.c (.func (.func 75) #[] #[])) [(.t 32), (.t 33), (.t 35)]⟩),
    (17, 131068, ⟨(some 44), none, .call (.c (.func (.func 76) #[] #[])) [(.t 40), (.t 41), (.t 43)]⟩),
    (18, 262141, ⟨(some 45), none, .nilCheck (.t 27)⟩),
    (19, 524285, ⟨(some 46), none, .fieldAddr 0 (.t 45)⟩),
    (20, 1048573, ⟨none, none, .store 1 (.t 46) (.t 36)⟩),
    (21, 2097151, ⟨(some 47), none, .nilCheck (.t 28)⟩),
    (22, 4194303, ⟨(some 48), none, .fieldAddr 1 (.t 47)⟩),
    (23, 8388607, ⟨none, none, .store 1 (.t 48) (.t 44)⟩)] (some []))
  .ret))
  .skip))
 (.seq (.ops [⟨(some 49), none, .move (.t 6)⟩,
   ⟨(some 50), none, .move (.t 2)⟩,
   ⟨(some 51), none, .call (.c (.func (.func 68) #[] #[])) [(.t 49), (.t 50)]⟩,
   ⟨(some 9), none, .move (.t 51)⟩] (some [0, 2, 6, 9]))
 (.seq (.ops [⟨(some 52), none, .move (.t 0)⟩,
   ⟨(some 53), none, .move (.t 6)⟩,
   ⟨(some 54), none, .nilCheck (.t 53)⟩,
   ⟨(some 55), none, .fieldAddr 2 (.t 54)⟩,
   ⟨(some 56), none, .load false 1 (.t 55)⟩,
   ⟨(some 57), none, .move (.t 9)⟩,
   ⟨(some 58), none, .indexAddr 1 (.t 56) (.t 57)⟩,
   ⟨(some 59), none, .load false 1 (.t 58)⟩,
   ⟨(some 60), none, .move (.t 2)⟩,
   ⟨(some 61), none, .call (.c (.func (.func 54) #[] #[])) [(.t 52), (.t 59), (.t 60)]⟩] (some [0, 6, 9]))
 (.seq (.opsd [(0, 0, ⟨(some 62), none, .move (.t 0)⟩),
   (1, 1, ⟨(some 63), none, .nilCheck (.t 62)⟩),
   (2, 3, ⟨(some 64), none, .fieldAddr 0 (.t 63)⟩),
   (3, 7, ⟨(some 65), none, .load false 1 (.t 64)⟩),
   (4, 0, ⟨(some 66), none, .move (.t 6)⟩),
   (5, 16, ⟨(some 67), none, .nilCheck (.t 66)⟩),
   (6, 48, ⟨(some 68), none, .fieldAddr 2 (.t 67)⟩),
   (7, 112, ⟨(some 69), none, .load false 1 (.t 68)⟩),
   (8, 0, ⟨(some 70), none, .move (.t 9)⟩),
   (9, 496, ⟨(some 71), none, .indexAddr 1 (.t 69) (.t 70)⟩),
   (10, 1008, ⟨(some 72), none, .load false 1 (.t 71)⟩),
   (11, 2047, ⟨(some 73), none, .indexAddr 3 (.t 65) (.t 72)⟩),
   (12, 4095, ⟨(some 74), none, .call (.c (.func (.func 49) #[] #[])) [(.t 73)]⟩),
   (13, 8191, ⟨(some 75), none, .bin .lss 3 (.t 74) (.c (.int .i64 2))⟩)] (some [0, 6, 9, 75]))
 (.cond (.t 75)
  (.ops [⟨(some 76), none, .move (.t 0)⟩,
    ⟨(some 77), none, .move (.t 6)⟩,
    ⟨(some 78), none, .move (.t 9)⟩,
    ⟨(some 79), none, .calcB .max [3, 3] 3 [(.t 78), (.c (.int .i64 1))]⟩,
    ⟨(some 80), none, .call (.c (.func (.func 77) #[] #[])) [(.t 76), (.t 77), (.t 79)]⟩] (some []))
  .skip)))))), []⟩

theorem is54 : FnIs Try.prog 54 x54 := ⟨Try.f54, _, Try.func54, by kernel_rfl, rfl, by kernel_rfl, by decide, by kernel_rfl⟩

/-- (*cloisonne/tree.Tree).drop -/
def x55 : XDecl := .code ⟨2, 
 (.seq (.ops [⟨(some 4), none, .move (.t 0)⟩,
   ⟨(some 5), none, .nilCheck (.t 4)⟩,
   ⟨(some 6), none, .fieldAddr 0 (.t 5)⟩,
   ⟨(some 7), none, .load false 1 (.t 6)⟩,
   ⟨(some 8), none, .move (.t 1)⟩,
   ⟨(some 9), none, .build [(.slice none 0 0), (.slice none 0 0), (.slice none 0 0)] [(0, 1), (1, 1), (2, 1)] []⟩,
   ⟨(some 10), none, .indexAddr 3 (.t 7) (.t 8)⟩,
   ⟨none, none, .store 3 (.t 10) (.t 9)⟩] (some [0, 1]))
 (.ops [⟨(some 11), none, .move (.t 0)⟩,
   ⟨(some 12), none, .move (.t 0)⟩,
   ⟨(some 13), none, .nilCheck (.t 12)⟩,
   ⟨(some 14), none, .fieldAddr 1 (.t 13)⟩,
   ⟨(some 15), none, .load false 1 (.t 14)⟩,
   ⟨(some 16), none, .move (.t 1)⟩,
   ⟨(some 17), none, .buildSlice [(.int .i64 0)] 1 1 [(0, (.t 16))]⟩,
   ⟨(some 18), none, .append 1 8 [(.int .i64 0)] (.t 15) (.t 17)⟩,
   ⟨(some 19), none, .nilCheck (.t 11)⟩,
   ⟨(some 20), none, .fieldAddr 1 (.t 19)⟩,
   ⟨none, none, .store 1 (.t 20) (.t 18)⟩] (some []))), []⟩

theorem is55 : FnIs Try.prog 55 x55 := ⟨Try.f55, _, Try.func55, by kernel_rfl, rfl, by kernel_rfl, by decide, by kernel_rfl⟩

/-- (*cloisonne/tree.node).leaf -/
def x56 : XDecl := .code ⟨1, 
 (.seq (.ops [⟨(some 2), none, .move (.c (.bool false))⟩] (some [0]))
 (.seq (.ops [⟨(some 3), none, .move (.t 0)⟩,
   ⟨(some 4), none, .nilCheck (.t 3)⟩,
   ⟨(some 5), none, .fieldAddr 2 (.t 4)⟩,
   ⟨(some 6), none, .load false 1 (.t 5)⟩,
   ⟨(some 7), none, .len (.t 6)⟩,
   ⟨(some 8), none, .bin .eql 3 (.t 7) (.c (.int .i64 0))⟩,
   ⟨(some 2), none, .move (.t 8)⟩] (some [2]))
 .ret)), [.tmp 2]⟩

theorem is56 : FnIs Try.prog 56 x56 := ⟨Try.f56, _, Try.func56, by kernel_rfl, rfl, by kernel_rfl, by decide, by kernel_rfl⟩

/-- (*cloisonne/tree.Tree).Before -/
def x57 : XDecl := .code ⟨2, 
 (.seq (.ops [⟨(some 4), none, .move (.c (.string .empty))⟩,
   ⟨(some 5), none, .move (.c (.int .i64 0))⟩,
   ⟨(some 6), none, .move (.c (.bool false))⟩] (some [0, 1]))
 (.seq (.seq (.ops [⟨(some 7), none, .move (.t 0)⟩,
   ⟨(some 8), none, .call (.c (.func (.func 51) #[] #[])) [(.t 7)]⟩,
   ⟨(some 9), none, .un .not (.t 8)⟩] (some [0, 1, 9]))
 (.cond (.t 9)
  (.seq (.ops [⟨(some 4), none, .move (.c (.string .empty))⟩,
    ⟨(some 5), none, .move (.c (.int .i64 0))⟩,
    ⟨(some 6), none, .move (.c (.bool false))⟩] (some [4, 5, 6]))
  .ret)
  .skip))
 (.seq (.ops [⟨(some 10), none, .move (.t 0)⟩,
   ⟨(some 11), none, .move (.t 0)⟩,
   ⟨(some 12), none, .nilCheck (.t 11)⟩,
   ⟨(some 13), none, .fieldAddr 2 (.t 12)⟩,
   ⟨(some 14), none, .load false 1 (.t 13)⟩,
   ⟨(some 15), none, .move (.t 1)⟩,
   ⟨(some 16), none, .call (.c (.func (.func 78) #[] #[])) [(.t 10), (.t 14), (.t 15)]⟩,
   ⟨(some 17), none, .extract (.t 16) 0⟩,
   ⟨(some 18), none, .extract (.t 16) 1⟩,
   ⟨(some 19), none, .extract (.t 16) 2⟩,
   ⟨(some 4), none, .move (.t 17)⟩,
   ⟨(some 5), none, .move (.t 18)⟩,
   ⟨(some 6), none, .move (.t 19)⟩] (some [4, 5, 6]))
 .ret))), [.tmp 4, .tmp 5, .tmp 6]⟩

theorem is57 : FnIs Try.prog 57 x57 := ⟨Try.f57, _, Try.func57, by kernel_rfl, rfl, by kernel_rfl, by decide, by kernel_rfl⟩

/-- (*cloisonne/cloisonneref08.Tree).From -/
def x58 : XDecl := .code ⟨3, 
 (.seq (.ops [⟨(some 6), none, .move (.c (.int .i64 0))⟩] (some [0, 1, 2]))
 (.seq (.ops [⟨(some 10), none, .move (.t 0)⟩,
   ⟨(some 11), none, .move (.t 1)⟩,
   ⟨(some 12), none, .call (.c (.func (.func 35) #[] #[])) [(.t 10), (.t 11)]⟩,
   ⟨(some 9), none, .move (.t 12)⟩,
   ⟨(some 13), none, .extract (.t 9) 0⟩,
   ⟨(some 14), none, .extract (.t 9) 1⟩,
   ⟨(some 7), none, .move (.t 13)⟩,
   ⟨(some 8), none, .move (.t 14)⟩] (some [0, 2, 7, 8]))
 (.seq (.seq (.ops [⟨(some 15), none, .move (.t 8)⟩,
   ⟨(some 16), none, .move (.t 15)⟩,
   ⟨(some 17), (some (16, true)), .move (.t 2)⟩,
   ⟨(some 18), none, .pick (.t 16) (.t 17) (.c (.bool false))⟩] (some [0, 7, 18]))
 (.cond (.t 18)
  (.ops [⟨(some 19), none, .move (.t 7)⟩,
    ⟨(some 20), none, .bin .add 3 (.t 19) (.c (.int .i64 1))⟩,
    ⟨(some 7), none, .move (.t 20)⟩] (some [0, 7]))
  .skip))
 (.seq (.seq (.ops [⟨(some 21), none, .move (.t 7)⟩,
   ⟨(some 22), none, .move (.t 0)⟩,
   ⟨(some 23), none, .nilCheck (.t 22)⟩,
   ⟨(some 24), none, .fieldAddr 0 (.t 23)⟩,
   ⟨(some 25), none, .load false 1 (.t 24)⟩,
   ⟨(some 26), none, .len (.t 25)⟩,
   ⟨(some 27), none, .bin .geq 3 (.t 21) (.t 26)⟩] (some [7, 27]))
 (.cond (.t 27)
  (.seq (.ops [⟨(some 6), none, .move (.c (.int .i64 (-1)))⟩] (some [6]))
  .ret)
  .skip))
 (.seq (.ops [⟨(some 28), none, .move (.t 7)⟩,
   ⟨(some 6), none, .move (.t 28)⟩] (some [6]))
 .ret))))), [.tmp 6]⟩

theorem is58 : FnIs Try.prog 58 x58 := ⟨Try.f58, _, Try.func58, by kernel_rfl, rfl, by kernel_rfl, by decide, by kernel_rfl⟩

/-- (*cloisonne/tree.Tree).Len -/
def x59 : XDecl := .code ⟨1, 
 (.seq (.ops [⟨(some 2), none, .move (.c (.int .i64 0))⟩] (some [0]))
 (.seq (.seq (.ops [⟨(some 3), none, .move (.t 0)⟩,
   ⟨(some 4), none, .isNil .ptr false (.t 3)⟩] (some [0, 4]))
 (.cond (.t 4)
  (.seq (.ops [⟨(some 2), none, .move (.c (.int .i64 0))⟩] (some [2]))
  .ret)
  .skip))
 (.seq (.ops [⟨(some 5), none, .move (.t 0)⟩,
   ⟨(some 6), none, .nilCheck (.t 5)⟩,
   ⟨(some 7), none, .fieldAddr 3 (.t 6)⟩,
   ⟨(some 8), none, .load false 1 (.t 7)⟩,
   ⟨(some 2), none, .move (.t 8)⟩] (some [2]))
 .ret))), [.tmp 2]⟩

theorem is59 : FnIs Try.prog 59 x59 := ⟨Try.f59, _, Try.func59, by kernel_rfl, rfl, by kernel_rfl, by decide, by kernel_rfl⟩

/-- (*cloisonne/tree.node).way -/
def x68 : XDecl := .code ⟨2, 
 (.seq (.ops [⟨(some 4), none, .move (.c (.int .i64 0))⟩] (some [0, 1]))
 (.seq (.ops [⟨(some 8), none, .move (.t 0)⟩,
   ⟨(some 9), none, .nilCheck (.t 8)⟩,
   ⟨(some 10), none, .fieldAddr 0 (.t 9)⟩,
   ⟨(some 11), none, .load false 1 (.t 10)⟩,
   ⟨(some 12), none, .move (.t 1)⟩,
   ⟨(some 13), none, .call (.c (.func (.func 69) #[] #[])) [(.t 11), (.t 12)]⟩,
   ⟨(some 7), none, .move (.t 13)⟩,
   ⟨(some 14), none, .extract (.t 7) 0⟩,
   ⟨(some 15), none, .extract (.t 7) 1⟩,
   ⟨(some 5), none, .move (.t 14)⟩,
   ⟨(some 6), none, .move (.t 15)⟩] (some [5, 6]))
 (.seq (.seq (.ops [⟨(some 16), none, .move (.t 6)⟩] (some [5, 16]))
 (.cond (.t 16)
  (.ops [⟨(some 17), none, .move (.t 5)⟩,
    ⟨(some 18), none, .bin .add 3 (.t 17) (.c (.int .i64 1))⟩,
    ⟨(some 5), none, .move (.t 18)⟩] (some [5]))
  .skip))
 (.seq (.ops [⟨(some 19), none, .move (.t 5)⟩,
   ⟨(some 4), none, .move (.t 19)⟩] (some [4]))
 .ret)))), [.tmp 4]⟩

theorem is68 : FnIs Try.prog 68 x68 := ⟨Try.f68, _, Try.func68, by kernel_rfl, rfl, by kernel_rfl, by decide, by kernel_rfl⟩

def tabA : FuncId → Option XDecl
  | 6 => some x6
  | 7 => some x7
  | 25 => some x25
  | 26 => some x26
  | 27 => some x27
  | 28 => some x28
  | 29 => some x29
  | 30 => some x30
  | 31 => some x31
  | 32 => some x32
  | 33 => some x33
  | 34 => some x34
  | 35 => some x35
  | 44 => some x44
  | 45 => some x45
  | 46 => some x46
  | 47 => some x47
  | 48 => some x48
  | 49 => some x49
  | 50 => some x50
  | 51 => some x51
  | 52 => some x52
  | 53 => some x53
  | 54 => some x54
  | 55 => some x55
  | 56 => some x56
  | 57 => some x57
  | 58 => some x58
  | 59 => some x59
  | 68 => some x68
  | _ => none
theorem tabA_is : ∀ f d, tabA f = some d → FnIs Try.prog f d := by
  intro f d h
  unfold tabA at h
  split at h
  · cases h; exact is6
  · cases h; exact is7
  · cases h; exact is25
  · cases h; exact is26
  · cases h; exact is27
  · cases h; exact is28
  · cases h; exact is29
  · cases h; exact is30
  · cases h; exact is31
  · cases h; exact is32
  · cases h; exact is33
  · cases h; exact is34
  · cases h; exact is35
  · cases h; exact is44
  · cases h; exact is45
  · cases h; exact is46
  · cases h; exact is47
  · cases h; exact is48
  · cases h; exact is49
  · cases h; exact is50
  · cases h; exact is51
  · cases h; exact is52
  · cases h; exact is53
  · cases h; exact is54
  · cases h; exact is55
  · cases h; exact is56
  · cases h; exact is57
  · cases h; exact is58
  · cases h; exact is59
  · cases h; exact is68
  · cases h

end Go.Proofs.Ytecceimgpeookaa.X
