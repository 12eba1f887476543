/-
  Own work, printed by a program of ours (mkprog.py): the functions of this seat as code of the abstract run, and that each is the model's.
-/
import Derived.Test.YtlhinicapcdikaaGreatDoorXLaw
import Derived.Test.YtlhinicapcdikaaGreatDoorChecked
set_option maxRecDepth 100000
namespace Go.Proofs.YtlhinicapcdikaaGreatDoor.X
open Go

/-- (*cloisonne/room.Room).Floor -/
def x122 : XDecl := .code ⟨1, 
 (.seq (.ops [⟨(some 2), none, .move (.c (.int .i64 0))⟩] (some [0]))
 (.seq (.seq (.ops [⟨(some 3), none, .move (.t 0)⟩,
   ⟨(some 4), none, .isNil .ptr false (.t 3)⟩] (some [0, 4]))
 (.cond (.t 4)
  (.seq (.ops [⟨(some 2), none, .move (.c (.int .i64 0))⟩] (some [2]))
  .ret)
  .skip))
 (.seq (.ops [⟨(some 5), none, .move (.t 0)⟩,
   ⟨(some 6), none, .nilCheck (.t 5)⟩,
   ⟨(some 7), none, .fieldAddr 4 (.t 6)⟩,
   ⟨(some 8), none, .load false 1 (.t 7)⟩,
   ⟨(some 9), none, .call (.c (.func (.func 196) #[] #[])) [(.t 8)]⟩,
   ⟨(some 2), none, .move (.t 9)⟩] (some [2]))
 .ret))), [.tmp 2]⟩

theorem is122 : FnIs Tryz.prog 122 x122 := ⟨Tryz.f122, _, Tryz.func122, by kernel_rfl, rfl, by kernel_rfl, by decide, by kernel_rfl⟩

/-- (*cloisonne/room.Room).lay -/
def x123 : XDecl := .code ⟨3, 
 (.seq (.ops [⟨(some 11), none, .move (.t 0)⟩,
   ⟨(some 12), none, .move (.t 1)⟩,
   ⟨(some 13), none, .call (.c (.func (.func 120) #[] #[])) [(.t 11), (.t 12)]⟩,
   ⟨(some 6), none, .move (.t 13)⟩] (some [0, 1, 2, 6]))
 (.seq (.ops [⟨(some 14), none, .move (.t 0)⟩,
   ⟨(some 15), none, .nilCheck (.t 14)⟩,
   ⟨(some 16), none, .fieldAddr 10 (.t 15)⟩,
   ⟨(some 17), none, .load false 1 (.t 16)⟩,
   ⟨(some 18), none, .move (.t 2)⟩,
   ⟨(some 19), none, .len (.t 18)⟩,
   ⟨(some 20), none, .move (.t 6)⟩,
   ⟨(some 21), none, .len (.t 20)⟩,
   ⟨(some 22), none, .bin .sub 3 (.t 19) (.t 21)⟩,
   ⟨(some 23), none, .bin .add 3 (.t 17) (.t 22)⟩,
   ⟨(some 24), none, .nilCheck (.t 14)⟩,
   ⟨(some 25), none, .fieldAddr 10 (.t 24)⟩,
   ⟨none, none, .store 1 (.t 25) (.t 23)⟩] (some [0, 1, 2, 6]))
 (.seq (.ops [⟨(some 26), none, .move (.t 1)⟩,
   ⟨(some 27), none, .move (.t 6)⟩,
   ⟨(some 28), none, .call (.c (.func (.func 197) #[] #[])) [(.t 26), (.t 27)]⟩,
   ⟨(some 29), none, .move (.t 1)⟩,
   ⟨(some 30), none, .move (.t 2)⟩,
   ⟨(some 31), none, .call (.c (.func (.func 197) #[] #[])) [(.t 29), (.t 30)]⟩,
   ⟨(some 7), none, .move (.t 28)⟩,
   ⟨(some 8), none, .move (.t 31)⟩] (some [0, 1, 2, 7, 8]))
 (.seq (.ops [⟨(some 32), none, .move (.t 0)⟩,
   ⟨(some 33), none, .nilCheck (.t 32)⟩,
   ⟨(some 34), none, .fieldAddr 8 (.t 33)⟩,
   ⟨(some 35), none, .load false 1 (.t 34)⟩,
   ⟨(some 36), none, .move (.t 8)⟩,
   ⟨(some 37), none, .move (.t 7)⟩,
   ⟨(some 38), none, .bin .sub 3 (.t 36) (.t 37)⟩,
   ⟨(some 39), none, .bin .add 3 (.t 35) (.t 38)⟩,
   ⟨(some 40), none, .nilCheck (.t 32)⟩,
   ⟨(some 41), none, .fieldAddr 8 (.t 40)⟩,
   ⟨none, none, .store 1 (.t 41) (.t 39)⟩] (some [0, 1, 2, 7, 8]))
 (.seq (.ops [⟨(some 42), none, .move (.t 0)⟩,
   ⟨(some 43), none, .nilCheck (.t 42)⟩,
   ⟨(some 44), none, .fieldAddr 9 (.t 43)⟩,
   ⟨(some 45), none, .load false 1 (.t 44)⟩,
   ⟨(some 46), none, .move (.t 8)⟩,
   ⟨(some 47), none, .calcB .min [3, 3] 3 [(.t 46), (.c (.int .i64 1))]⟩,
   ⟨(some 48), none, .move (.t 7)⟩,
   ⟨(some 49), none, .calcB .min [3, 3] 3 [(.t 48), (.c (.int .i64 1))]⟩,
   ⟨(some 50), none, .bin .sub 3 (.t 47) (.t 49)⟩,
   ⟨(some 51), none, .bin .add 3 (.t 45) (.t 50)⟩,
   ⟨(some 52), none, .nilCheck (.t 42)⟩,
   ⟨(some 53), none, .fieldAddr 9 (.t 52)⟩,
   ⟨none, none, .store 1 (.t 53) (.t 51)⟩] (some [0, 1, 2]))
 (.seq (.ops [⟨(some 55), none, .move (.t 0)⟩,
   ⟨(some 56), none, .nilCheck (.t 55)⟩,
   ⟨(some 57), none, .fieldAddr 5 (.t 56)⟩,
   ⟨(some 58), none, .load false 1 (.t 57)⟩,
   ⟨(some 59), none, .move (.t 1)⟩,
   ⟨(some 60), none, .call (.c (.func (.func 193) #[] #[])) [(.t 58), (.t 59)]⟩,
   ⟨(some 54), none, .move (.t 60)⟩,
   ⟨(some 61), none, .extract (.t 54) 0⟩,
   ⟨(some 62), none, .extract (.t 54) 1⟩,
   ⟨(some 9), none, .move (.t 61)⟩,
   ⟨(some 10), none, .move (.t 62)⟩] (some [0, 1, 2, 9, 10]))
 (.block 0
  (.seq (.ops [⟨(some 64), none, .move (.t 10)⟩,
    ⟨(some 65), none, .move (.t 64)⟩,
    ⟨(some 66), (some (65, true)), .move (.t 2)⟩,
    ⟨(some 67), (some (65, true)), .len (.t 66)⟩,
    ⟨(some 68), (some (65, true)), .bin .eql 3 (.t 67) (.c (.int .i64 0))⟩,
    ⟨(some 69), none, .pick (.t 65) (.t 68) (.c (.bool false))⟩,
    ⟨(some 63), none, .move (.t 69)⟩] (some [0, 1, 2, 9, 10, 63]))
  (.cond (.t 63)
   (.seq (.ops [⟨(some 70), none, .move (.t 0)⟩,
     ⟨(some 71), none, .nilCheck (.t 70)⟩,
     ⟨(some 72), none, .fieldAddr 5 (.t 71)⟩,
     ⟨(some 73), none, .load false 1 (.t 72)⟩,
     ⟨(some 74), none, .move (.t 1)⟩,
     ⟨(some 75), none, .call (.c (.func (.func 198) #[] #[])) [(.t 73), (.t 74)]⟩] (some [0, 9]))
   (.seq (.ops [⟨(some 76), none, .move (.t 0)⟩,
     ⟨(some 77), none, .nilCheck (.t 76)⟩,
     ⟨(some 78), none, .fieldAddr 6 (.t 77)⟩,
     ⟨(some 79), none, .load false 1 (.t 78)⟩,
     ⟨(some 80), none, .move (.t 9)⟩,
     ⟨(some 81), none, .indexAddr 1 (.t 79) (.t 80)⟩,
     ⟨none, none, .store 1 (.t 81) (.c (.slice none 0 0))⟩] (some [0, 9]))
   (.ops [⟨(some 82), none, .move (.t 0)⟩,
     ⟨(some 83), none, .move (.t 0)⟩,
     ⟨(some 84), none, .nilCheck (.t 83)⟩,
     ⟨(some 85), none, .fieldAddr 7 (.t 84)⟩,
     ⟨(some 86), none, .load false 1 (.t 85)⟩,
     ⟨(some 87), none, .move (.t 9)⟩,
     ⟨(some 88), none, .buildSlice [(.int .i64 0)] 1 1 [(0, (.t 87))]⟩,
     ⟨(some 89), none, .append 1 8 [(.int .i64 0)] (.t 86) (.t 88)⟩,
     ⟨(some 90), none, .nilCheck (.t 82)⟩,
     ⟨(some 91), none, .fieldAddr 7 (.t 90)⟩,
     ⟨none, none, .store 1 (.t 91) (.t 89)⟩] (some []))))
   (.seq (.ops [⟨(some 93), none, .move (.t 10)⟩,
     ⟨(some 92), none, .move (.t 93)⟩] (some [0, 1, 2, 9, 92]))
   (.cond (.t 92)
    (.ops [⟨(some 94), none, .move (.t 0)⟩,
      ⟨(some 95), none, .nilCheck (.t 94)⟩,
      ⟨(some 96), none, .fieldAddr 6 (.t 95)⟩,
      ⟨(some 97), none, .load false 1 (.t 96)⟩,
      ⟨(some 98), none, .move (.t 9)⟩,
      ⟨(some 99), none, .move (.t 2)⟩,
      ⟨(some 100), none, .indexAddr 1 (.t 97) (.t 98)⟩,
      ⟨none, none, .store 1 (.t 100) (.t 99)⟩] (some []))
    (.seq (.ops [⟨(some 102), none, .move (.t 2)⟩,
      ⟨(some 103), none, .len (.t 102)⟩,
      ⟨(some 104), none, .bin .gtr 3 (.t 103) (.c (.int .i64 0))⟩,
      ⟨(some 105), none, .move (.t 104)⟩,
      ⟨(some 106), (some (105, true)), .move (.t 0)⟩,
      ⟨(some 107), (some (105, true)), .nilCheck (.t 106)⟩,
      ⟨(some 108), (some (105, true)), .fieldAddr 7 (.t 107)⟩,
      ⟨(some 109), (some (105, true)), .load false 1 (.t 108)⟩,
      ⟨(some 110), (some (105, true)), .len (.t 109)⟩,
      ⟨(some 111), (some (105, true)), .bin .gtr 3 (.t 110) (.c (.int .i64 0))⟩,
      ⟨(some 112), none, .pick (.t 105) (.t 111) (.c (.bool false))⟩,
      ⟨(some 101), none, .move (.t 112)⟩] (some [0, 1, 2, 101]))
    (.cond (.t 101)
     (.seq (.opsr [⟨(some 113), none, .move (.t 0)⟩,
       ⟨(some 114), none, .nilCheck (.t 113)⟩,
       ⟨(some 115), none, .fieldAddr 7 (.t 114)⟩,
       ⟨(some 116), none, .load false 1 (.t 115)⟩,
       ⟨(some 117), none, .move (.t 0)⟩,
       ⟨(some 118), none, .nilCheck (.t 117)⟩,
       ⟨(some 119), none, .fieldAddr 7 (.t 118)⟩,
       ⟨(some 120), none, .load false 1 (.t 119)⟩,
       ⟨(some 121), none, .len (.t 120)⟩,
       ⟨(some 122), none, .bin .sub 3 (.t 121) (.c (.int .i64 1))⟩,
       ⟨(some 123), none, .indexAddr 1 (.t 116) (.t 122)⟩,
       ⟨(some 124), none, .load false 1 (.t 123)⟩,
       ⟨(some 9), none, .move (.t 124)⟩] (some [0, 1, 2, 9]))
     (.seq (.opsd [(0, 0, ⟨(some 125), none, .move (.t 0)⟩),
       (1, 0, ⟨(some 126), none, .move (.t 0)⟩),
       (2, 2, ⟨(some 127), none, .nilCheck (.t 126)⟩),
       (3, 6, ⟨(some 128), none, .fieldAddr 7 (.t 127)⟩),
       (4, 14, ⟨(some 129), none, .load false 1 (.t 128)⟩),
       (5, 0, ⟨(some 130), none, .move (.t 0)⟩),
       (6, 32, ⟨(some 131), none, .nilCheck (.t 130)⟩),
       (7, 96, ⟨(some 132), none, .fieldAddr 7 (.t 131)⟩),
       (8, 224, ⟨(some 133), none, .load false 1 (.t 132)⟩),
       (9, 480, ⟨(some 134), none, .len (.t 133)⟩),
       (10, 992, ⟨(some 135), none, .bin .sub 3 (.t 134) (.c (.int .i64 1))⟩),
       (11, 2046, ⟨(some 136), none, .slice 1 (.t 129) none (some (.t 135)) none⟩),
       (12, 4095, ⟨(some 137), none, .nilCheck (.t 125)⟩),
       (13, 8191, ⟨(some 138), none, .fieldAddr 7 (.t 137)⟩),
       (14, 16383, ⟨none, none, .store 1 (.t 138) (.t 136)⟩)] (some [0, 1, 2, 9]))
     (.seq (.ops [⟨(some 139), none, .move (.t 0)⟩,
       ⟨(some 140), none, .nilCheck (.t 139)⟩,
       ⟨(some 141), none, .fieldAddr 6 (.t 140)⟩,
       ⟨(some 142), none, .load false 1 (.t 141)⟩,
       ⟨(some 143), none, .move (.t 9)⟩,
       ⟨(some 144), none, .move (.t 2)⟩,
       ⟨(some 145), none, .indexAddr 1 (.t 142) (.t 143)⟩,
       ⟨none, none, .store 1 (.t 145) (.t 144)⟩] (some [0, 1, 9]))
     (.ops [⟨(some 146), none, .move (.t 0)⟩,
       ⟨(some 147), none, .nilCheck (.t 146)⟩,
       ⟨(some 148), none, .fieldAddr 5 (.t 147)⟩,
       ⟨(some 149), none, .load false 1 (.t 148)⟩,
       ⟨(some 150), none, .move (.t 1)⟩,
       ⟨(some 151), none, .move (.t 9)⟩,
       ⟨(some 152), none, .call (.c (.func (.func 199) #[] #[])) [(.t 149), (.t 150), (.t 151)]⟩] (some [])))))
     (.seq (.ops [⟨(some 154), none, .move (.t 2)⟩,
       ⟨(some 155), none, .len (.t 154)⟩,
       ⟨(some 156), none, .bin .gtr 3 (.t 155) (.c (.int .i64 0))⟩,
       ⟨(some 153), none, .move (.t 156)⟩] (some [0, 1, 2, 153]))
     (.cond (.t 153)
      (.seq (.opsd [(0, 0, ⟨(some 157), none, .move (.t 0)⟩),
        (1, 1, ⟨(some 158), none, .nilCheck (.t 157)⟩),
        (2, 3, ⟨(some 159), none, .fieldAddr 5 (.t 158)⟩),
        (3, 7, ⟨(some 160), none, .load false 1 (.t 159)⟩),
        (4, 0, ⟨(some 161), none, .move (.t 1)⟩),
        (5, 0, ⟨(some 162), none, .move (.t 0)⟩),
        (6, 32, ⟨(some 163), none, .nilCheck (.t 162)⟩),
        (7, 96, ⟨(some 164), none, .fieldAddr 6 (.t 163)⟩),
        (8, 224, ⟨(some 165), none, .load false 1 (.t 164)⟩),
        (9, 480, ⟨(some 166), none, .len (.t 165)⟩),
        (10, 1023, ⟨(some 167), none, .call (.c (.func (.func 199) #[] #[])) [(.t 160), (.t 161), (.t 166)]⟩)] (some [0, 2]))
      (.ops [⟨(some 168), none, .move (.t 0)⟩,
        ⟨(some 169), none, .move (.t 0)⟩,
        ⟨(some 170), none, .nilCheck (.t 169)⟩,
        ⟨(some 171), none, .fieldAddr 6 (.t 170)⟩,
        ⟨(some 172), none, .load false 1 (.t 171)⟩,
        ⟨(some 173), none, .move (.t 2)⟩,
        ⟨(some 174), none, .buildSlice [(.slice none 0 0)] 1 1 [(0, (.t 173))]⟩,
        ⟨(some 175), none, .append 1 24 [(.slice none 0 0)] (.t 172) (.t 174)⟩,
        ⟨(some 176), none, .nilCheck (.t 168)⟩,
        ⟨(some 177), none, .fieldAddr 6 (.t 176)⟩,
        ⟨none, none, .store 1 (.t 177) (.t 175)⟩] (some [])))
      .skip))))))))))))))), []⟩

theorem is123 : FnIs Tryz.prog 123 x123 := ⟨Tryz.f123, _, Tryz.func123, by kernel_rfl, rfl, by kernel_rfl, by decide, by kernel_rfl⟩

/-- (*cloisonne/job.Job).Move -/
def x126 : XDecl := .code ⟨1, 
 (.seq (.ops [⟨(some 2), none, .move (.c (.int .i64 0))⟩,
   ⟨(some 3), none, .move (.c (.int .i64 0))⟩] (some [0]))
 (.seq (.seq (.ops [⟨(some 4), none, .move (.t 0)⟩,
   ⟨(some 5), none, .isNil .ptr false (.t 4)⟩] (some [0, 5]))
 (.cond (.t 5)
  (.seq (.ops [⟨(some 2), none, .move (.c (.int .i64 0))⟩,
    ⟨(some 3), none, .move (.c (.int .i64 2))⟩] (some [2, 3]))
  .ret)
  .skip))
 (.seq (.seq (.ops [⟨(some 6), none, .move (.t 0)⟩,
   ⟨(some 7), none, .nilCheck (.t 6)⟩,
   ⟨(some 8), none, .fieldAddr 4 (.t 7)⟩,
   ⟨(some 9), none, .load false 1 (.t 8)⟩] (some [0, 9]))
 (.block 0
  (.seq (.ops [⟨(some 11), none, .bin .eql 3 (.t 9) (.c (.int .i64 0))⟩,
    ⟨(some 10), none, .move (.t 11)⟩] (some [0, 9, 10]))
  (.cond (.t 10)
   (.seq (.ops [⟨(some 12), none, .move (.t 0)⟩,
     ⟨(some 13), none, .call (.c (.func (.func 202) #[] #[])) [(.t 12)]⟩,
     ⟨(some 14), none, .extract (.t 13) 0⟩,
     ⟨(some 15), none, .extract (.t 13) 1⟩,
     ⟨(some 2), none, .move (.t 14)⟩,
     ⟨(some 3), none, .move (.t 15)⟩] (some [2, 3]))
   .ret)
   (.seq (.ops [⟨(some 17), none, .bin .eql 3 (.t 9) (.c (.int .i64 1))⟩,
     ⟨(some 16), none, .move (.t 17)⟩] (some [0, 9, 16]))
   (.cond (.t 16)
    (.seq (.ops [⟨(some 18), none, .move (.t 0)⟩,
      ⟨(some 19), none, .call (.c (.func (.func 203) #[] #[])) [(.t 18)]⟩,
      ⟨(some 20), none, .extract (.t 19) 0⟩,
      ⟨(some 21), none, .extract (.t 19) 1⟩,
      ⟨(some 2), none, .move (.t 20)⟩,
      ⟨(some 3), none, .move (.t 21)⟩] (some [2, 3]))
    .ret)
    (.seq (.ops [⟨(some 23), none, .bin .eql 3 (.t 9) (.c (.int .i64 2))⟩,
      ⟨(some 22), none, .move (.t 23)⟩] (some [0, 22]))
    (.cond (.t 22)
     (.seq (.ops [⟨(some 24), none, .move (.t 0)⟩,
       ⟨(some 25), none, .call (.c (.func (.func 204) #[] #[])) [(.t 24)]⟩,
       ⟨(some 26), none, .extract (.t 25) 0⟩,
       ⟨(some 27), none, .extract (.t 25) 1⟩,
       ⟨(some 2), none, .move (.t 26)⟩,
       ⟨(some 3), none, .move (.t 27)⟩] (some [2, 3]))
     .ret)
     .skip))))))))
 (.seq (.ops [⟨(some 2), none, .move (.c (.int .i64 2))⟩,
   ⟨(some 3), none, .move (.c (.int .i64 0))⟩] (some [2, 3]))
 .ret)))), [.tmp 2, .tmp 3]⟩

theorem is126 : FnIs Tryz.prog 126 x126 := ⟨Tryz.f126, _, Tryz.func126, by kernel_rfl, rfl, by kernel_rfl, by decide, by kernel_rfl⟩

/-- (*cloisonne/job.Job).Done -/
def x127 : XDecl := .code ⟨1, 
 (.seq (.ops [⟨(some 2), none, .move (.c (.int .u64 0))⟩,
   ⟨(some 3), none, .move (.c (.int .i64 0))⟩,
   ⟨(some 4), none, .move (.c (.bool false))⟩] (some [0]))
 (.seq (.seq (.ops [⟨(some 5), none, .move (.t 0)⟩,
   ⟨(some 6), none, .isNil .ptr false (.t 5)⟩] (some [0, 6]))
 (.cond (.t 6)
  (.seq (.ops [⟨(some 2), none, .move (.c (.int .u64 0))⟩,
    ⟨(some 3), none, .move (.c (.int .i64 2))⟩,
    ⟨(some 4), none, .move (.c (.bool false))⟩] (some [2, 3, 4]))
  .ret)
  .skip))
 (.seq (.opsr [⟨(some 7), none, .move (.t 0)⟩,
   ⟨(some 8), none, .nilCheck (.t 7)⟩,
   ⟨(some 9), none, .fieldAddr 6 (.t 8)⟩,
   ⟨(some 10), none, .load false 1 (.t 9)⟩,
   ⟨(some 11), none, .move (.t 0)⟩,
   ⟨(some 12), none, .nilCheck (.t 11)⟩,
   ⟨(some 13), none, .fieldAddr 7 (.t 12)⟩,
   ⟨(some 14), none, .load false 1 (.t 13)⟩,
   ⟨(some 15), none, .move (.t 0)⟩,
   ⟨(some 16), none, .nilCheck (.t 15)⟩,
   ⟨(some 17), none, .fieldAddr 4 (.t 16)⟩,
   ⟨(some 18), none, .load false 1 (.t 17)⟩,
   ⟨(some 19), none, .bin .eql 3 (.t 18) (.c (.int .i64 3))⟩,
   ⟨(some 2), none, .move (.t 10)⟩,
   ⟨(some 3), none, .move (.t 14)⟩,
   ⟨(some 4), none, .move (.t 19)⟩] (some [2, 3, 4]))
 .ret))), [.tmp 2, .tmp 3, .tmp 4]⟩

theorem is127 : FnIs Tryz.prog 127 x127 := ⟨Tryz.f127, _, Tryz.func127, by kernel_rfl, rfl, by kernel_rfl, by decide, by kernel_rfl⟩

/-- cmp.isNaN[int] -/
def x136 : XDecl := .code ⟨1, 
 (.seq (.ops [⟨(some 2), none, .move (.c (.bool false))⟩] (some [0]))
 (.seq (.ops [⟨(some 3), none, .move (.t 0)⟩,
   ⟨(some 4), none, .move (.t 0)⟩,
   ⟨(some 5), none, .bin .neq 3 (.t 3) (.t 4)⟩,
   ⟨(some 2), none, .move (.t 5)⟩] (some [2]))
 .ret)), [.tmp 2]⟩

theorem is136 : FnIs Tryz.prog 136 x136 := ⟨Tryz.f136, _, Tryz.func136, by kernel_rfl, rfl, by kernel_rfl, by decide, by kernel_rfl⟩

/-- cloisonne/value.Right -/
def x143 : XDecl := .code ⟨1, 
 (.seq (.ops [⟨(some 1), none, .box (.t 0)⟩,
   ⟨(some 2), none, .move (.c (.bool false))⟩] (some [1]))
 (.seq (.seq (.ops [⟨(some 3), none, .fieldAddr 0 (.t 1)⟩,
   ⟨(some 4), none, .load false 1 (.t 3)⟩] (some [1, 4]))
 (.cond (.t 4)
  (.seq (.opsd [(0, 0, ⟨(some 5), none, .fieldAddr 1 (.t 1)⟩),
    (1, 1, ⟨(some 6), none, .load false 1 (.t 5)⟩),
    (2, 3, ⟨(some 7), none, .bin .eql 9 (.t 6) (.c (.string .empty))⟩),
    (3, 7, ⟨(some 8), none, .move (.t 7)⟩),
    (4, 15, ⟨(some 9), (some (8, true)), .fieldAddr 2 (.t 1)⟩),
    (5, 31, ⟨(some 10), (some (8, true)), .load false 1 (.t 9)⟩),
    (8, 15, ⟨(some 13), (some (8, true)), .fieldAddr 2 (.t 1)⟩),
    (9, 271, ⟨(some 14), (some (8, true)), .load false 1 (.t 13)⟩),
    (6, 63, ⟨(some 11), (some (8, true)), .call (.c (.func (.func 214) #[] #[])) [(.t 10)]⟩),
    (7, 127, ⟨(some 12), (some (8, true)), .call (.c (.func (.func 213) #[] #[])) [(.t 11)]⟩),
    (10, 1023, ⟨(some 15), (some (8, true)), .bin .eql 23 (.t 12) (.t 14)⟩),
    (11, 2047, ⟨(some 16), none, .pick (.t 8) (.t 15) (.c (.bool false))⟩),
    (12, 4095, ⟨(some 2), none, .move (.t 16)⟩)] (some [2]))
  .ret)
  .skip))
 (.seq (.ops [⟨(some 17), none, .fieldAddr 2 (.t 1)⟩,
   ⟨(some 18), none, .load false 1 (.t 17)⟩,
   ⟨(some 19), none, .bin .eql 23 (.t 18) (.c (.int .u64 0))⟩,
   ⟨(some 20), none, .move (.t 19)⟩,
   ⟨(some 21), (some (20, true)), .fieldAddr 1 (.t 1)⟩,
   ⟨(some 22), (some (20, true)), .load false 1 (.t 21)⟩,
   ⟨(some 23), (some (20, true)), .calcB .len [9] 3 [(.t 22)]⟩,
   ⟨(some 24), (some (20, true)), .bin .leq 3 (.t 23) (.c (.int .i64 64))⟩,
   ⟨(some 25), none, .pick (.t 20) (.t 24) (.c (.bool false))⟩,
   ⟨(some 2), none, .move (.t 25)⟩] (some [2]))
 .ret))), [.tmp 2]⟩

theorem is143 : FnIs Tryz.prog 143 x143 := ⟨Tryz.f143, _, Tryz.func143, by kernel_rfl, rfl, by kernel_rfl, by decide, by kernel_rfl⟩

/-- slices.Clone[[]cloisonne/api.Write,cloisonne/api.Write] -/
def x146 : XDecl := .code ⟨1, 
 (.seq (.ops [⟨(some 2), none, .move (.c (.slice none 0 0))⟩] (some [0]))
 (.seq (.seq (.ops [⟨(some 3), none, .move (.t 0)⟩,
   ⟨(some 4), none, .isNil .slice false (.t 3)⟩] (some [0, 4]))
 (.cond (.t 4)
  (.seq (.ops [⟨(some 2), none, .move (.c (.slice none 0 0))⟩] (some [2]))
  .ret)
  .skip))
 (.seq (.ops [⟨(some 5), none, .buildSlice [(.string .empty), (.bool false), (.bool false), (.string .empty), (.int .u64 0)] 5 0 []⟩,
   ⟨(some 6), none, .move (.t 0)⟩,
   ⟨(some 7), none, .append 5 56 [(.string .empty), (.bool false), (.bool false), (.string .empty), (.int .u64 0)] (.t 5) (.t 6)⟩,
   ⟨(some 2), none, .move (.t 7)⟩] (some [2]))
 .ret))), [.tmp 2]⟩

theorem is146 : FnIs Tryz.prog 146 x146 := ⟨Tryz.f146, _, Tryz.func146, by kernel_rfl, rfl, by kernel_rfl, by decide, by kernel_rfl⟩

/-- cloisonne/vault.Right$1 -/
def x147 : XDecl := .code ⟨2, 
 (.seq (.ops [⟨(some 2), none, .box (.t 0)⟩,
   ⟨(some 3), none, .move (.c (.bool false))⟩] (some [1, 2]))
 (.seq (.ops [⟨(some 4), none, .fieldAddr 0 (.t 2)⟩,
   ⟨(some 5), none, .load false 1 (.t 4)⟩,
   ⟨(some 6), none, .fieldAddr 0 (.t 1)⟩,
   ⟨(some 7), none, .load false 1 (.t 6)⟩,
   ⟨(some 8), none, .call (.c (.func (.func 148) #[] #[])) [(.t 5), (.t 7)]⟩,
   ⟨(some 9), none, .bin .eql 3 (.t 8) (.c (.int .i64 0))⟩,
   ⟨(some 3), none, .move (.t 9)⟩] (some [3]))
 .ret)), [.tmp 3]⟩

theorem is147 : FnIs Tryz.prog 147 x147 := ⟨Tryz.f147, _, Tryz.func147, by kernel_rfl, rfl, by kernel_rfl, by decide, by kernel_rfl⟩

/-- cloisonne/label.Compare -/
def x148 : XDecl := .code ⟨2, 
 (.seq (.ops [⟨(some 4), none, .move (.c (.int .i64 0))⟩] (some [0, 1]))
 (.seq (.ops [⟨(some 5), none, .move (.t 0)⟩,
   ⟨(some 6), none, .len (.t 5)⟩,
   ⟨(some 7), none, .move (.t 1)⟩,
   ⟨(some 8), none, .len (.t 7)⟩,
   ⟨(some 9), none, .call (.c (.func (.func 82) #[] #[])) [(.t 6), (.t 8)]⟩,
   ⟨(some 10), none, .move (.t 0)⟩,
   ⟨(some 11), none, .move (.t 1)⟩,
   ⟨(some 12), none, .call (.c (.func (.func 219) #[] #[])) [(.t 10), (.t 11)]⟩,
   ⟨(some 13), none, .buildSlice [(.int .i64 0)] 1 2 [(0, (.t 9)), (1, (.t 12))]⟩,
   ⟨(some 14), none, .call (.c (.func (.func 218) #[] #[])) [(.t 13)]⟩,
   ⟨(some 4), none, .move (.t 14)⟩] (some [4]))
 .ret)), [.tmp 4]⟩

theorem is148 : FnIs Tryz.prog 148 x148 := ⟨Tryz.f148, _, Tryz.func148, by kernel_rfl, rfl, by kernel_rfl, by decide, by kernel_rfl⟩

/-- cloisonne/room.Right -/
def x149 : XDecl := .code ⟨1, 
 (.seq (.ops [⟨(some 1), none, .box (.t 0)⟩,
   ⟨(some 2), none, .move (.c (.bool false))⟩] (some [1]))
 (.seq (.ops [⟨(some 3), none, .fieldAddr 0 (.t 1)⟩,
   ⟨(some 4), none, .load false 1 (.t 3)⟩,
   ⟨(some 5), none, .call (.c (.func (.func 176) #[] #[])) [(.t 4)]⟩,
   ⟨(some 6), none, .move (.t 5)⟩,
   ⟨(some 7), (some (6, true)), .fieldAddr 1 (.t 1)⟩,
   ⟨(some 8), (some (6, true)), .load false 1 (.t 7)⟩,
   ⟨(some 9), (some (6, true)), .call (.c (.func (.func 220) #[] #[])) [(.t 8), (.c (.int .i64 1)), (.c (.int .i64 16))]⟩,
   ⟨(some 10), none, .pick (.t 6) (.t 9) (.c (.bool false))⟩,
   ⟨(some 11), none, .move (.t 10)⟩,
   ⟨(some 12), (some (11, true)), .fieldAddr 2 (.t 1)⟩,
   ⟨(some 13), (some (11, true)), .load false 1 (.t 12)⟩,
   ⟨(some 14), (some (11, true)), .call (.c (.func (.func 220) #[] #[])) [(.t 13), (.c (.int .i64 0)), (.c (.int .i64 1048576))]⟩,
   ⟨(some 15), none, .pick (.t 11) (.t 14) (.c (.bool false))⟩,
   ⟨(some 16), none, .move (.t 15)⟩,
   ⟨(some 17), (some (16, true)), .fieldAddr 3 (.t 1)⟩,
   ⟨(some 18), (some (16, true)), .load false 1 (.t 17)⟩,
   ⟨(some 19), (some (16, true)), .call (.c (.func (.func 220) #[] #[])) [(.t 18), (.c (.int .i64 1)), (.c (.int .i64 1073741824))]⟩,
   ⟨(some 20), none, .pick (.t 16) (.t 19) (.c (.bool false))⟩,
   ⟨(some 2), none, .move (.t 20)⟩] (some [2]))
 .ret)), [.tmp 2]⟩

theorem is149 : FnIs Tryz.prog 149 x149 := ⟨Tryz.f149, _, Tryz.func149, by kernel_rfl, rfl, by kernel_rfl, by decide, by kernel_rfl⟩

/-- slices.ContainsFunc[[]cloisonne/api.Room,cloisonne/api.Room] -/
def x150 : XDecl := .code ⟨2, 
 (.seq (.ops [⟨(some 4), none, .move (.c (.bool false))⟩] (some [0, 1]))
 (.seq (.ops [⟨(some 5), none, .move (.t 0)⟩,
   ⟨(some 6), none, .move (.t 1)⟩,
   ⟨(some 7), none, .call (.c (.func (.func 221) #[] #[])) [(.t 5), (.t 6)]⟩,
   ⟨(some 8), none, .bin .geq 3 (.t 7) (.c (.int .i64 0))⟩,
   ⟨(some 4), none, .move (.t 8)⟩] (some [4]))
 .ret)), [.tmp 4]⟩

theorem is150 : FnIs Tryz.prog 150 x150 := ⟨Tryz.f150, _, Tryz.func150, by kernel_rfl, rfl, by kernel_rfl, by decide, by kernel_rfl⟩

/-- slices.Clone[[]cloisonne/api.Room,cloisonne/api.Room] -/
def x151 : XDecl := .code ⟨1, 
 (.seq (.ops [⟨(some 2), none, .move (.c (.slice none 0 0))⟩] (some [0]))
 (.seq (.seq (.ops [⟨(some 3), none, .move (.t 0)⟩,
   ⟨(some 4), none, .isNil .slice false (.t 3)⟩] (some [0, 4]))
 (.cond (.t 4)
  (.seq (.ops [⟨(some 2), none, .move (.c (.slice none 0 0))⟩] (some [2]))
  .ret)
  .skip))
 (.seq (.ops [⟨(some 5), none, .buildSlice [(.slice none 0 0), (.int .i64 0), (.int .i64 0), (.int .i64 0)] 4 0 []⟩,
   ⟨(some 6), none, .move (.t 0)⟩,
   ⟨(some 7), none, .append 4 48 [(.slice none 0 0), (.int .i64 0), (.int .i64 0), (.int .i64 0)] (.t 5) (.t 6)⟩,
   ⟨(some 2), none, .move (.t 7)⟩] (some [2]))
 .ret))), [.tmp 2]⟩

theorem is151 : FnIs Tryz.prog 151 x151 := ⟨Tryz.f151, _, Tryz.func151, by kernel_rfl, rfl, by kernel_rfl, by decide, by kernel_rfl⟩

/-- cloisonne/seglog.Open -/
def x152 : XDecl := .code ⟨2, 
 (.seq (.ops [⟨(some 4), none, .move (.c (.pointer none))⟩,
   ⟨(some 5), none, .move (.c (.slice none 0 0))⟩,
   ⟨(some 6), none, .move (.c (.int .i64 0))⟩] (some [0, 1]))
 (.seq (.block 0
  (.seq (.ops [⟨(some 14), none, .move (.t 0)⟩,
    ⟨(some 15), none, .isNil .ptr false (.t 14)⟩,
    ⟨(some 13), none, .move (.t 15)⟩] (some [0, 1, 13]))
  (.cond (.t 13)
   (.seq (.ops [⟨(some 4), none, .move (.c (.pointer none))⟩,
     ⟨(some 5), none, .move (.c (.slice none 0 0))⟩,
     ⟨(some 6), none, .move (.c (.int .i64 2))⟩] (some [4, 5, 6]))
   .ret)
   (.seq (.ops [⟨(some 17), none, .move (.t 0)⟩,
     ⟨(some 18), none, .call (.c (.func (.func 95) #[] #[])) [(.t 17)]⟩,
     ⟨(some 19), none, .un .not (.t 18)⟩,
     ⟨(some 16), none, .move (.t 19)⟩] (some [0, 1, 16]))
   (.cond (.t 16)
    (.seq (.ops [⟨(some 4), none, .move (.c (.pointer none))⟩,
      ⟨(some 5), none, .move (.c (.slice none 0 0))⟩,
      ⟨(some 6), none, .move (.c (.int .i64 6))⟩] (some [4, 5, 6]))
    .ret)
    (.seq (.ops [⟨(some 21), none, .move (.t 1)⟩,
      ⟨(some 22), none, .bin .lss 3 (.t 21) (.c (.int .i64 0))⟩,
      ⟨(some 23), none, .move (.t 22)⟩,
      ⟨(some 24), (some (23, false)), .move (.t 1)⟩,
      ⟨(some 25), (some (23, false)), .move (.t 0)⟩,
      ⟨(some 26), (some (23, false)), .call (.c (.func (.func 93) #[] #[])) [(.t 25)]⟩,
      ⟨(some 27), (some (23, false)), .bin .sub 3 (.t 26) (.c (.int .i64 1))⟩,
      ⟨(some 28), (some (23, false)), .bin .geq 3 (.t 24) (.t 27)⟩,
      ⟨(some 29), none, .pick (.t 23) (.c (.bool true)) (.t 28)⟩,
      ⟨(some 20), none, .move (.t 29)⟩] (some [0, 1, 20]))
    (.cond (.t 20)
     (.seq (.ops [⟨(some 4), none, .move (.c (.pointer none))⟩,
       ⟨(some 5), none, .move (.c (.slice none 0 0))⟩,
       ⟨(some 6), none, .move (.c (.int .i64 1))⟩] (some [4, 5, 6]))
     .ret)
     .skip)))))))
 (.seq (.ops [⟨(some 30), none, .move (.t 0)⟩,
   ⟨(some 31), none, .move (.t 1)⟩,
   ⟨(some 32), none, .move (.t 1)⟩,
   ⟨(some 33), none, .bin .add 3 (.t 32) (.c (.int .i64 1))⟩,
   ⟨(some 34), none, .build [(.pointer none), (.int .i64 0), (.int .i64 0), (.int .i64 0), (.int .i64 0), (.int .i64 0), (.pointer none)] [(0, 1), (1, 1), (2, 1), (3, 1), (4, 1), (5, 1), (6, 1)] [(0, (.t 30)), (1, (.t 31)), (2, (.t 33))]⟩,
   ⟨(some 35), none, .box (.t 34)⟩,
   ⟨(some 7), none, .move (.t 35)⟩] (some [0, 1, 7]))
 (.seq (.ops [⟨(some 8), none, .move (.c (.slice none 0 0))⟩] (some [0, 1, 7, 8]))
 (.seq (.seq (.ops [⟨(some 36), none, .move (.t 1)⟩,
   ⟨(some 9), none, .move (.t 36)⟩] (some [0, 1, 7, 8, 9]))
 (.block 1
  (.loop
   (.seq (.seq (.ops [⟨(some 37), none, .move (.t 9)⟩,
     ⟨(some 38), none, .move (.t 1)⟩,
     ⟨(some 39), none, .bin .add 3 (.t 38) (.c (.int .i64 1))⟩,
     ⟨(some 40), none, .bin .leq 3 (.t 37) (.t 39)⟩] (some [0, 1, 7, 8, 9, 40]))
   (.cond (.t 40)
    .skip
    (.exit 1)))
   (.seq (.block 2
    (.seq (.ops [⟨(some 43), none, .move (.t 0)⟩,
      ⟨(some 44), none, .move (.t 9)⟩,
      ⟨(some 45), none, .call (.c (.func (.func 222) #[] #[])) [(.t 43), (.t 44)]⟩,
      ⟨(some 10), none, .alloc [(.slice none 0 0), (.slice none 0 0), (.slice none 0 0), (.int .i64 0)]⟩,
      ⟨none, none, .store 4 (.t 10) (.t 45)⟩] (some [0, 1, 7, 8, 9, 10]))
    (.seq (.opsd [(0, 0, ⟨(some 46), none, .move (.t 7)⟩),
      (1, 0, ⟨(some 47), none, .move (.t 7)⟩),
      (2, 2, ⟨(some 48), none, .nilCheck (.t 47)⟩),
      (3, 6, ⟨(some 49), none, .fieldAddr 5 (.t 48)⟩),
      (4, 14, ⟨(some 50), none, .load false 1 (.t 49)⟩),
      (5, 0, ⟨(some 51), none, .fieldAddr 3 (.t 10)⟩),
      (6, 32, ⟨(some 52), none, .load false 1 (.t 51)⟩),
      (7, 126, ⟨(some 53), none, .calcB .max [3, 3] 3 [(.t 50), (.t 52)]⟩),
      (8, 255, ⟨(some 54), none, .nilCheck (.t 46)⟩),
      (9, 511, ⟨(some 55), none, .fieldAddr 5 (.t 54)⟩),
      (10, 1023, ⟨none, none, .store 1 (.t 55) (.t 53)⟩)] (some [0, 1, 7, 8, 9, 10]))
    (.seq (.seq (.opsr [⟨(some 56), none, .fieldAddr 2 (.t 10)⟩,
      ⟨(some 57), none, .load false 1 (.t 56)⟩,
      ⟨(some 58), none, .indexAddr 1 (.t 57) (.c (.int .i64 0))⟩,
      ⟨(some 59), none, .load false 1 (.t 58)⟩,
      ⟨(some 60), none, .un .not (.t 59)⟩,
      ⟨(some 61), none, .move (.t 60)⟩,
      ⟨(some 62), (some (61, false)), .fieldAddr 0 (.t 10)⟩,
      ⟨(some 63), (some (61, false)), .load false 1 (.t 62)⟩,
      ⟨(some 64), (some (61, false)), .indexAddr 5 (.t 63) (.c (.int .i64 0))⟩,
      ⟨(some 65), (some (61, false)), .fieldAddr 0 (.t 64)⟩,
      ⟨(some 66), (some (61, false)), .load false 1 (.t 65)⟩,
      ⟨(some 67), (some (61, false)), .move (.t 7)⟩,
      ⟨(some 68), (some (61, false)), .nilCheck (.t 67)⟩,
      ⟨(some 69), (some (61, false)), .fieldAddr 3 (.t 68)⟩,
      ⟨(some 70), (some (61, false)), .load false 1 (.t 69)⟩,
      ⟨(some 71), (some (61, false)), .bin .leq 3 (.t 66) (.t 70)⟩,
      ⟨(some 72), none, .pick (.t 61) (.c (.bool true)) (.t 71)⟩] (some [0, 1, 7, 8, 9, 10, 72]))
    (.cond (.t 72)
     (.exit 2)
     .skip))
    (.seq (.ops [⟨(some 74), none, .load true 4 (.t 10)⟩,
      ⟨(some 75), none, .call (.c (.func (.func 223) #[] #[])) [(.t 74)]⟩,
      ⟨(some 73), none, .move (.t 75)⟩,
      ⟨(some 76), none, .extract (.t 73) 0⟩,
      ⟨(some 77), none, .extract (.t 73) 1⟩,
      ⟨(some 11), none, .move (.t 76)⟩,
      ⟨(some 12), none, .move (.t 77)⟩] (some [0, 1, 7, 8, 9, 10, 11, 12]))
    (.seq (.ops [⟨(some 78), none, .move (.t 12)⟩,
      ⟨(some 79), none, .bin .gtr 3 (.t 78) (.c (.int .i64 0))⟩] (some [0, 1, 7, 8, 9, 10, 11, 12, 79]))
    (.cond (.t 79)
     (.ops [⟨(some 80), none, .move (.t 7)⟩,
       ⟨(some 81), none, .move (.t 7)⟩,
       ⟨(some 82), none, .move (.t 7)⟩,
       ⟨(some 83), none, .move (.t 9)⟩,
       ⟨(some 84), none, .fieldAddr 0 (.t 10)⟩,
       ⟨(some 85), none, .load false 1 (.t 84)⟩,
       ⟨(some 86), none, .indexAddr 5 (.t 85) (.c (.int .i64 0))⟩,
       ⟨(some 87), none, .fieldAddr 0 (.t 86)⟩,
       ⟨(some 88), none, .load false 1 (.t 87)⟩,
       ⟨(some 89), none, .move (.t 12)⟩,
       ⟨(some 90), none, .move (.t 11)⟩,
       ⟨(some 91), none, .nilCheck (.t 80)⟩,
       ⟨(some 92), none, .fieldAddr 2 (.t 91)⟩,
       ⟨none, none, .store 1 (.t 92) (.t 83)⟩,
       ⟨(some 93), none, .nilCheck (.t 81)⟩,
       ⟨(some 94), none, .fieldAddr 3 (.t 93)⟩,
       ⟨none, none, .store 1 (.t 94) (.t 88)⟩,
       ⟨(some 95), none, .nilCheck (.t 82)⟩,
       ⟨(some 96), none, .fieldAddr 4 (.t 95)⟩,
       ⟨none, none, .store 1 (.t 96) (.t 89)⟩,
       ⟨(some 8), none, .move (.t 90)⟩] (some [0, 1, 7, 8, 9]))
     .skip)))))))
   (.ops [⟨(some 41), none, .move (.t 9)⟩,
     ⟨(some 42), none, .bin .add 3 (.t 41) (.c (.int .i64 1))⟩,
     ⟨(some 9), none, .move (.t 42)⟩] (some [0, 1, 7, 8, 9])))))))
 (.seq (.ops [⟨(some 97), none, .move (.t 7)⟩,
   ⟨(some 98), none, .nilCheck (.t 97)⟩,
   ⟨(some 99), none, .fieldAddr 5 (.t 98)⟩,
   ⟨(some 100), none, .load false 1 (.t 99)⟩,
   ⟨(some 101), none, .bin .add 3 (.t 100) (.c (.int .i64 1))⟩,
   ⟨(some 102), none, .nilCheck (.t 97)⟩,
   ⟨(some 103), none, .fieldAddr 5 (.t 102)⟩,
   ⟨none, none, .store 1 (.t 103) (.t 101)⟩] (some [7, 8]))
 (.seq (.ops [⟨(some 104), none, .move (.t 7)⟩,
   ⟨(some 105), none, .move (.t 8)⟩,
   ⟨(some 4), none, .move (.t 104)⟩,
   ⟨(some 5), none, .move (.t 105)⟩,
   ⟨(some 6), none, .move (.c (.int .i64 0))⟩] (some [4, 5, 6]))
 .ret))))))), [.tmp 4, .tmp 5, .tmp 6]⟩

theorem is152 : FnIs Tryz.prog 152 x152 := ⟨Tryz.f152, _, Tryz.func152, by kernel_rfl, rfl, by kernel_rfl, by decide, by kernel_rfl⟩

/-- (*cloisonne/seglog.Log).Gen -/
def x153 : XDecl := .code ⟨1, 
 (.seq (.ops [⟨(some 2), none, .move (.c (.int .i64 0))⟩] (some [0]))
 (.seq (.seq (.ops [⟨(some 3), none, .move (.t 0)⟩,
   ⟨(some 4), none, .isNil .ptr false (.t 3)⟩] (some [0, 4]))
 (.cond (.t 4)
  (.seq (.ops [⟨(some 2), none, .move (.c (.int .i64 0))⟩] (some [2]))
  .ret)
  .skip))
 (.seq (.ops [⟨(some 5), none, .move (.t 0)⟩,
   ⟨(some 6), none, .nilCheck (.t 5)⟩,
   ⟨(some 7), none, .fieldAddr 3 (.t 6)⟩,
   ⟨(some 8), none, .load false 1 (.t 7)⟩,
   ⟨(some 2), none, .move (.t 8)⟩] (some [2]))
 .ret))), [.tmp 2]⟩

theorem is153 : FnIs Tryz.prog 153 x153 := ⟨Tryz.f153, _, Tryz.func153, by kernel_rfl, rfl, by kernel_rfl, by decide, by kernel_rfl⟩

/-- cloisonne/caps.New -/
def x154 : XDecl := .code ⟨1, 
 (.seq (.ops [⟨(some 2), none, .move (.c (.pointer none))⟩,
   ⟨(some 3), none, .move (.c (.int .i64 0))⟩] (some [0]))
 (.seq (.seq (.ops [⟨(some 4), none, .move (.t 0)⟩,
   ⟨(some 5), none, .bin .lss 3 (.t 4) (.c (.int .i64 1))⟩,
   ⟨(some 6), none, .move (.t 5)⟩,
   ⟨(some 7), (some (6, false)), .move (.t 0)⟩,
   ⟨(some 8), (some (6, false)), .bin .gtr 3 (.t 7) (.c (.int .i64 8))⟩,
   ⟨(some 9), none, .pick (.t 6) (.c (.bool true)) (.t 8)⟩] (some [0, 9]))
 (.cond (.t 9)
  (.seq (.ops [⟨(some 2), none, .move (.c (.pointer none))⟩,
    ⟨(some 3), none, .move (.c (.int .i64 1))⟩] (some [2, 3]))
  .ret)
  .skip))
 (.seq (.ops [⟨(some 10), none, .move (.t 0)⟩,
   ⟨(some 11), none, .makeSlice [(.int .u64 0), (.int .u64 0)] 16 (.t 10) (.t 10)⟩,
   ⟨(some 12), none, .build [(.int .i64 0), (.slice none 0 0)] [(0, 1), (1, 1)] [(1, (.t 11))]⟩,
   ⟨(some 13), none, .box (.t 12)⟩,
   ⟨(some 2), none, .move (.t 13)⟩,
   ⟨(some 3), none, .move (.c (.int .i64 0))⟩] (some [2, 3]))
 .ret))), [.tmp 2, .tmp 3]⟩

theorem is154 : FnIs Tryz.prog 154 x154 := ⟨Tryz.f154, _, Tryz.func154, by kernel_rfl, rfl, by kernel_rfl, by decide, by kernel_rfl⟩

/-- cloisonne/record.Rights -/
def x155 : XDecl := .code ⟨1, 
 (.seq (.ops [⟨(some 2), none, .move (.c (.string .empty))⟩,
   ⟨(some 3), none, .alloc [(.int .i64 0)]⟩] (some [0, 3]))
 (.seq (.seq (.ops [⟨(some 8), none, .move (.t 0)⟩,
   ⟨(some 9), none, .isNil .ptr false (.t 8)⟩] (some [0, 3, 9]))
 (.cond (.t 9)
  (.seq (.ops [⟨(some 2), none, .move (.c (.string .empty))⟩,
    ⟨none, none, .store 1 (.t 3) (.c (.int .i64 2))⟩] (some [2, 3]))
  .ret)
  .skip))
 (.seq (.ops [⟨none, none, .dfr [(.t 3), (.c (.int .i64 1))]⟩] (some [0, 3]))
 (.seq (.ops [⟨(some 10), none, .call (.c (.func (.func 226) #[] #[])) [(.c (.int .i64 5))]⟩,
   ⟨(some 11), none, .move (.t 0)⟩,
   ⟨(some 12), none, .call (.c (.func (.func 227) #[] #[])) [(.t 11)]⟩,
   ⟨(some 13), none, .call (.c (.func (.func 226) #[] #[])) [(.t 12)]⟩,
   ⟨(some 14), none, .buildSlice [(.int .u64 0), (.string .empty), (.slice none 0 0), (.slice none 0 0)] 4 2 [(0, (.t 10)), (1, (.t 13))]⟩,
   ⟨(some 15), none, .call (.c (.func (.func 225) #[] #[])) [(.c (.string ⟨#[98, 110]⟩)), (.t 14)]⟩,
   ⟨(some 4), none, .move (.t 15)⟩] (some [0, 3, 4]))
 (.seq (.ops [⟨(some 17), none, .move (.t 0)⟩,
   ⟨(some 18), none, .call (.c (.func (.func 228) #[] #[])) [(.t 17)]⟩,
   ⟨(some 16), none, .move (.t 18)⟩,
   ⟨(some 19), none, .extract (.t 16) 0⟩,
   ⟨(some 20), none, .extract (.t 16) 1⟩,
   ⟨(some 5), none, .move (.t 19)⟩,
   ⟨(some 6), none, .move (.t 20)⟩] (some [3, 4, 5, 6]))
 (.seq (.seq (.ops [⟨(some 21), none, .move (.t 5)⟩,
   ⟨(some 22), none, .len (.t 21)⟩,
   ⟨(some 23), none, .move (.c (.int .i64 0))⟩] (some [3, 4, 5, 6, 22, 23]))
 (.block 0
  (.loop
   (.seq (.ops [⟨(some 24), none, .bin .lss 3 (.t 23) (.t 22)⟩] (some [3, 4, 5, 6, 22, 23, 24]))
   (.seq (.cond (.t 24)
    .skip
    (.exit 0))
   (.seq (.block 1
    (.seq (.ops [⟨(some 25), none, .move (.t 23)⟩,
      ⟨(some 7), none, .move (.t 25)⟩] (some [3, 4, 5, 6, 7, 22, 23]))
    (.opsd [(0, 0, ⟨(some 26), none, .move (.t 4)⟩),
      (1, 0, ⟨(some 27), none, .move (.t 5)⟩),
      (2, 0, ⟨(some 28), none, .move (.t 7)⟩),
      (3, 6, ⟨(some 29), none, .indexAddr 1 (.t 27) (.t 28)⟩),
      (4, 14, ⟨(some 30), none, .load false 1 (.t 29)⟩),
      (5, 30, ⟨(some 31), none, .build [(.int .u64 0), (.string .empty), (.slice none 0 0), (.slice none 0 0)] [(0, 1), (1, 1), (2, 1), (3, 1)] [(0, (.t 30))]⟩),
      (6, 0, ⟨(some 32), none, .move (.t 6)⟩),
      (7, 0, ⟨(some 33), none, .move (.t 7)⟩),
      (8, 192, ⟨(some 34), none, .indexAddr 1 (.t 32) (.t 33)⟩),
      (9, 448, ⟨(some 35), none, .load false 1 (.t 34)⟩),
      (10, 960, ⟨(some 36), none, .build [(.int .u64 0), (.string .empty), (.slice none 0 0), (.slice none 0 0)] [(0, 1), (1, 1), (2, 1), (3, 1)] [(0, (.t 35))]⟩),
      (11, 2046, ⟨(some 37), none, .buildSlice [(.int .u64 0), (.string .empty), (.slice none 0 0), (.slice none 0 0)] 4 2 [(0, (.t 31)), (1, (.t 36))]⟩),
      (12, 4094, ⟨(some 38), none, .call (.c (.func (.func 225) #[] #[])) [(.c (.string ⟨#[110, 110]⟩)), (.t 37)]⟩),
      (13, 8191, ⟨(some 39), none, .bin .add 9 (.t 26) (.t 38)⟩),
      (14, 16383, ⟨(some 4), none, .move (.t 39)⟩)] (some [3, 4, 5, 6, 22, 23]))))
   (.ops [⟨(some 40), none, .bin .add 3 (.t 23) (.c (.int .i64 1))⟩,
     ⟨(some 23), none, .move (.t 40)⟩] (some [3, 4, 5, 6, 22, 23]))))))))
 (.seq (.ops [⟨(some 41), none, .move (.t 4)⟩,
   ⟨(some 2), none, .move (.t 41)⟩,
   ⟨none, none, .store 1 (.t 3) (.c (.int .i64 0))⟩] (some [2, 3]))
 .ret))))))), [.tmp 2, .cell false 1 3]⟩

theorem is155 : FnIs Tryz.prog 155 x155 := ⟨Tryz.f155, _, Tryz.func155, by kernel_rfl, rfl, by kernel_rfl, by decide, by kernel_rfl⟩

/-- cloisonne/vault.found -/
def x156 : XDecl := .code ⟨2, 
 (.seq (.ops [⟨(some 4), none, .move (.c (.int .i64 0))⟩] (some [0, 1]))
 (.seq (.ops [⟨(some 9), none, .move (.t 0)⟩,
   ⟨(some 10), none, .move (.t 1)⟩,
   ⟨(some 11), none, .call (.c (.func (.func 229) #[] #[])) [(.t 9), (.t 10)]⟩,
   ⟨(some 8), none, .move (.t 11)⟩,
   ⟨(some 12), none, .extract (.t 8) 0⟩,
   ⟨(some 13), none, .extract (.t 8) 1⟩,
   ⟨(some 5), none, .move (.t 12)⟩,
   ⟨(some 6), none, .move (.t 13)⟩] (some [5, 6]))
 (.seq (.seq (.ops [⟨(some 7), none, .move (.c (.int .i64 1))⟩] (some [5, 6, 7]))
 (.block 0
  (.loop
   (.seq (.seq (.ops [⟨(some 14), none, .move (.t 6)⟩,
     ⟨(some 15), none, .bin .eql 34 (.t 14) (.c (.int .i64 0))⟩,
     ⟨(some 16), none, .move (.t 15)⟩,
     ⟨(some 17), (some (16, true)), .move (.t 7)⟩,
     ⟨(some 18), (some (16, true)), .bin .eql 3 (.t 17) (.c (.int .i64 1))⟩,
     ⟨(some 19), none, .pick (.t 16) (.t 18) (.c (.bool false))⟩] (some [5, 6, 19]))
   (.cond (.t 19)
    .skip
    (.exit 0)))
   (.block 1
    (.ops [⟨(some 21), none, .move (.t 5)⟩,
      ⟨(some 22), none, .call (.c (.func (.func 230) #[] #[])) [(.t 21)]⟩,
      ⟨(some 20), none, .move (.t 22)⟩,
      ⟨(some 23), none, .extract (.t 20) 0⟩,
      ⟨(some 24), none, .extract (.t 20) 1⟩,
      ⟨(some 7), none, .move (.t 23)⟩,
      ⟨(some 6), none, .move (.t 24)⟩] (some [5, 6, 7])))))))
 (.seq (.seq (.ops [⟨(some 25), none, .move (.t 6)⟩,
   ⟨(some 26), none, .bin .neq 34 (.t 25) (.c (.int .i64 0))⟩] (some [26]))
 (.cond (.t 26)
  (.seq (.ops [⟨(some 4), none, .move (.c (.int .i64 19))⟩] (some [4]))
  .ret)
  .skip))
 (.seq (.ops [⟨(some 4), none, .move (.c (.int .i64 0))⟩] (some [4]))
 .ret))))), [.tmp 4]⟩

theorem is156 : FnIs Tryz.prog 156 x156 := ⟨Tryz.f156, _, Tryz.func156, by kernel_rfl, rfl, by kernel_rfl, by decide, by kernel_rfl⟩

/-- cloisonne/room.New -/
def x158 : XDecl := .code ⟨1, 
 (.seq (.ops [⟨(some 1), none, .box (.t 0)⟩,
   ⟨(some 2), none, .move (.c (.pointer none))⟩,
   ⟨(some 3), none, .move (.c (.int .i64 0))⟩] (some [1]))
 (.seq (.ops [⟨(some 4), none, .load true 4 (.t 1)⟩,
   ⟨(some 5), none, .call (.c (.func (.func 235) #[] #[])) [(.t 4), (.c (.int .i64 0))]⟩,
   ⟨(some 6), none, .extract (.t 5) 0⟩,
   ⟨(some 7), none, .extract (.t 5) 1⟩,
   ⟨(some 2), none, .move (.t 6)⟩,
   ⟨(some 3), none, .move (.t 7)⟩] (some [2, 3]))
 .ret)), [.tmp 2, .tmp 3]⟩

theorem is158 : FnIs Tryz.prog 158 x158 := ⟨Tryz.f158, _, Tryz.func158, by kernel_rfl, rfl, by kernel_rfl, by decide, by kernel_rfl⟩

/-- cloisonne/record.Base -/
def x159 : XDecl := .code ⟨2, 
 (.seq (.ops [⟨(some 4), none, .move (.c (.string .empty))⟩,
   ⟨(some 5), none, .alloc [(.int .i64 0)]⟩] (some [0, 1, 5]))
 (.seq (.ops [⟨none, none, .dfr [(.t 5), (.c (.int .i64 1))]⟩] (some [0, 1, 5]))
 (.seq (.ops [⟨(some 9), none, .move (.t 0)⟩,
   ⟨(some 10), none, .move (.t 1)⟩,
   ⟨(some 11), none, .call (.c (.func (.func 237) #[] #[])) [(.t 9), (.t 10)]⟩,
   ⟨(some 12), none, .call (.c (.func (.func 236) #[] #[])) [(.t 11)]⟩] (some [0, 1, 5]))
 (.seq (.ops [⟨(some 13), none, .call (.c (.func (.func 226) #[] #[])) [(.c (.int .i64 2))]⟩,
   ⟨(some 14), none, .move (.t 0)⟩,
   ⟨(some 15), none, .call (.c (.func (.func 226) #[] #[])) [(.t 14)]⟩,
   ⟨(some 16), none, .buildSlice [(.int .u64 0), (.string .empty), (.slice none 0 0), (.slice none 0 0)] 4 2 [(0, (.t 13)), (1, (.t 15))]⟩,
   ⟨(some 17), none, .call (.c (.func (.func 225) #[] #[])) [(.c (.string ⟨#[98, 110]⟩)), (.t 16)]⟩,
   ⟨(some 6), none, .move (.t 17)⟩] (some [1, 5, 6]))
 (.seq (.seq (.ops [⟨(some 18), none, .move (.t 1)⟩,
   ⟨(some 19), none, .len (.t 18)⟩,
   ⟨(some 20), none, .move (.c (.int .i64 0))⟩] (some [5, 6, 18, 19, 20]))
 (.block 0
  (.loop
   (.seq (.ops [⟨(some 21), none, .bin .lss 3 (.t 20) (.t 19)⟩] (some [5, 6, 18, 19, 20, 21]))
   (.seq (.cond (.t 21)
    .skip
    (.exit 0))
   (.seq (.block 1
    (.seq (.ops [⟨(some 22), none, .indexAddr 5 (.t 18) (.t 20)⟩,
      ⟨(some 23), none, .load true 5 (.t 22)⟩,
      ⟨(some 8), none, .alloc [(.string .empty), (.int .i64 0), (.bool false), (.string .empty), (.int .u64 0)]⟩,
      ⟨none, none, .store 5 (.t 8) (.t 23)⟩] (some [5, 6, 8, 18, 19, 20]))
    (.opsd [(0, 0, ⟨(some 24), none, .move (.t 6)⟩),
      (1, 0, ⟨(some 25), none, .fieldAddr 1 (.t 8)⟩),
      (2, 2, ⟨(some 26), none, .load false 1 (.t 25)⟩),
      (4, 0, ⟨(some 28), none, .fieldAddr 0 (.t 8)⟩),
      (5, 16, ⟨(some 29), none, .load false 1 (.t 28)⟩),
      (6, 48, ⟨(some 30), none, .build [(.int .u64 0), (.string .empty), (.slice none 0 0), (.slice none 0 0)] [(0, 1), (1, 1), (2, 1), (3, 1)] [(1, (.t 29))]⟩),
      (7, 0, ⟨(some 31), none, .fieldAddr 2 (.t 8)⟩),
      (8, 128, ⟨(some 32), none, .load true 3 (.t 31)⟩),
      (3, 6, ⟨(some 27), none, .call (.c (.func (.func 226) #[] #[])) [(.t 26)]⟩),
      (9, 398, ⟨(some 33), none, .call (.c (.func (.func 238) #[] #[])) [(.t 32), (.c (.bool false))]⟩),
      (10, 910, ⟨(some 34), none, .build [(.int .u64 0), (.string .empty), (.slice none 0 0), (.slice none 0 0)] [(0, 1), (1, 1), (2, 1), (3, 1)] [(1, (.t 33))]⟩),
      (11, 2046, ⟨(some 35), none, .buildSlice [(.int .u64 0), (.string .empty), (.slice none 0 0), (.slice none 0 0)] 4 3 [(0, (.t 27)), (1, (.t 30)), (2, (.t 34))]⟩),
      (12, 4094, ⟨(some 36), none, .call (.c (.func (.func 225) #[] #[])) [(.c (.string ⟨#[110, 116, 116]⟩)), (.t 35)]⟩),
      (13, 8191, ⟨(some 37), none, .bin .add 9 (.t 24) (.t 36)⟩),
      (14, 16383, ⟨(some 6), none, .move (.t 37)⟩)] (some [5, 6, 18, 19, 20]))))
   (.ops [⟨(some 38), none, .bin .add 3 (.t 20) (.c (.int .i64 1))⟩,
     ⟨(some 20), none, .move (.t 38)⟩] (some [5, 6, 18, 19, 20]))))))))
 (.seq (.ops [⟨(some 39), none, .move (.t 6)⟩,
   ⟨(some 4), none, .move (.t 39)⟩,
   ⟨none, none, .store 1 (.t 5) (.c (.int .i64 0))⟩] (some [4, 5]))
 .ret)))))), [.tmp 4, .cell false 1 5]⟩

theorem is159 : FnIs Tryz.prog 159 x159 := ⟨Tryz.f159, _, Tryz.func159, by kernel_rfl, rfl, by kernel_rfl, by decide, by kernel_rfl⟩

/-- (*cloisonne/sess.Session).login -/
def x161 : XDecl := .code ⟨2, 
 (.seq (.ops [⟨(some 3), none, .box (.t 1)⟩,
   ⟨(some 4), none, .alloc [(.int .i64 0), (.int .u64 0), (.bool false), (.bool false), (.string .empty), (.int .u64 0), (.slice none 0 0), (.int .i64 0), (.int .u64 0), (.int .u64 0), (.int .u64 0), (.int .u64 0)]⟩] (some [0, 3, 4]))
 (.seq (.block 0
  (.seq (.ops [⟨(some 6), none, .move (.t 0)⟩,
    ⟨(some 7), none, .nilCheck (.t 6)⟩,
    ⟨(some 8), none, .fieldAddr 2 (.t 7)⟩,
    ⟨(some 9), none, .load false 1 (.t 8)⟩,
    ⟨(some 5), none, .move (.t 9)⟩] (some [0, 3, 4, 5]))
  (.cond (.t 5)
   (.seq (.ops [⟨(some 10), none, .call (.c (.func (.func 99) #[] #[])) [(.c (.int .i64 8))]⟩,
     ⟨none, none, .store 12 (.t 4) (.t 10)⟩] (some [4]))
   .ret)
   (.seq (.opsd [(0, 0, ⟨(some 12), none, .fieldAddr 1 (.t 3)⟩),
     (1, 1, ⟨(some 13), none, .load false 1 (.t 12)⟩),
     (2, 0, ⟨(some 14), none, .move (.t 0)⟩),
     (3, 4, ⟨(some 15), none, .nilCheck (.t 14)⟩),
     (4, 12, ⟨(some 16), none, .fieldAddr 0 (.t 15)⟩),
     (5, 28, ⟨(some 17), none, .load false 1 (.t 16)⟩),
     (6, 60, ⟨(some 18), none, .call (.c (.func (.func 245) #[] #[])) [(.t 17)]⟩),
     (7, 124, ⟨(some 19), none, .call (.c (.func (.func 232) #[] #[])) [(.t 18)]⟩),
     (8, 255, ⟨(some 20), none, .bin .geq 3 (.t 13) (.t 19)⟩),
     (9, 511, ⟨(some 11), none, .move (.t 20)⟩)] (some [0, 3, 4, 11]))
   (.cond (.t 11)
    (.seq (.ops [⟨(some 21), none, .call (.c (.func (.func 99) #[] #[])) [(.c (.int .i64 1))]⟩,
      ⟨none, none, .store 12 (.t 4) (.t 21)⟩] (some [4]))
    .ret)
    .skip)))))
 (.seq (.opsd [(0, 0, ⟨(some 22), none, .move (.t 0)⟩),
   (1, 0, ⟨(some 23), none, .move (.t 0)⟩),
   (2, 0, ⟨(some 24), none, .move (.t 0)⟩),
   (3, 0, ⟨(some 25), none, .move (.t 0)⟩),
   (4, 0, ⟨(some 26), none, .fieldAddr 1 (.t 3)⟩),
   (5, 16, ⟨(some 27), none, .load false 1 (.t 26)⟩),
   (6, 1, ⟨(some 28), none, .nilCheck (.t 22)⟩),
   (7, 65, ⟨(some 29), none, .fieldAddr 3 (.t 28)⟩),
   (8, 193, ⟨none, none, .store 1 (.t 29) (.c (.bool true))⟩),
   (9, 451, ⟨(some 30), none, .nilCheck (.t 23)⟩),
   (10, 963, ⟨(some 31), none, .fieldAddr 2 (.t 30)⟩),
   (11, 1987, ⟨none, none, .store 1 (.t 31) (.c (.bool true))⟩),
   (12, 4087, ⟨(some 32), none, .nilCheck (.t 24)⟩),
   (13, 8183, ⟨(some 33), none, .fieldAddr 4 (.t 32)⟩),
   (14, 16375, ⟨none, none, .store 1 (.t 33) (.t 27)⟩),
   (15, 32767, ⟨(some 34), none, .nilCheck (.t 25)⟩),
   (16, 65535, ⟨(some 35), none, .fieldAddr 5 (.t 34)⟩),
   (17, 131071, ⟨none, none, .store 1 (.t 35) (.c (.slice none 0 0))⟩)] (some [4]))
 (.seq (.ops [⟨(some 36), none, .call (.c (.func (.func 99) #[] #[])) [(.c (.int .i64 0))]⟩,
   ⟨none, none, .store 12 (.t 4) (.t 36)⟩] (some [4]))
 .ret)))), [.cell true 12 4]⟩

theorem is161 : FnIs Tryz.prog 161 x161 := ⟨Tryz.f161, _, Tryz.func161, by kernel_rfl, rfl, by kernel_rfl, by decide, by kernel_rfl⟩

/-- (*cloisonne/vault.Vault).Stamp -/
def x164 : XDecl := .code ⟨1, 
 (.seq (.ops [⟨(some 2), none, .move (.c (.int .u64 0))⟩] (some [0]))
 (.seq (.seq (.ops [⟨(some 3), none, .move (.t 0)⟩,
   ⟨(some 4), none, .isNil .ptr false (.t 3)⟩] (some [0, 4]))
 (.cond (.t 4)
  (.seq (.ops [⟨(some 2), none, .move (.c (.int .u64 0))⟩] (some [2]))
  .ret)
  .skip))
 (.seq (.ops [⟨(some 5), none, .move (.t 0)⟩,
   ⟨(some 6), none, .nilCheck (.t 5)⟩,
   ⟨(some 7), none, .fieldAddr 9 (.t 6)⟩,
   ⟨(some 8), none, .load false 1 (.t 7)⟩,
   ⟨(some 2), none, .move (.t 8)⟩] (some [2]))
 .ret))), [.tmp 2]⟩

theorem is164 : FnIs Tryz.prog 164 x164 := ⟨Tryz.f164, _, Tryz.func164, by kernel_rfl, rfl, by kernel_rfl, by decide, by kernel_rfl⟩

/-- cloisonne/wset.New -/
def x165 : XDecl := .code ⟨0, 
 (.seq (.ops [⟨(some 0), none, .move (.c (.pointer none))⟩] (some []))
 (.seq (.ops [⟨(some 1), none, .build [(.slice none 0 0), (.slice none 0 0), (.slice none 0 0)] [(0, 1), (1, 1), (2, 1)] []⟩,
   ⟨(some 2), none, .box (.t 1)⟩,
   ⟨(some 0), none, .move (.t 2)⟩] (some [0]))
 .ret)), [.tmp 0]⟩

theorem is165 : FnIs Tryz.prog 165 x165 := ⟨Tryz.f165, _, Tryz.func165, by kernel_rfl, rfl, by kernel_rfl, by decide, by kernel_rfl⟩

/-- (*cloisonne/sess.Session).start -/
def x166 : XDecl := .code ⟨2, 
 (.seq (.ops [⟨(some 3), none, .box (.t 1)⟩,
   ⟨(some 4), none, .move (.c (.pointer none))⟩,
   ⟨(some 5), none, .alloc [(.int .i64 0), (.int .u64 0), (.bool false), (.bool false), (.string .empty), (.int .u64 0), (.slice none 0 0), (.int .i64 0), (.int .u64 0), (.int .u64 0), (.int .u64 0), (.int .u64 0)]⟩] (some [0, 3, 5]))
 (.seq (.ops [⟨(some 6), none, .move (.c (.pointer none))⟩] (some [0, 3, 5, 6]))
 (.seq (.ops [⟨(some 7), none, .move (.c (.int .i64 0))⟩] (some [0, 3, 5, 6]))
 (.seq (.block 0
  (.seq (.ops [⟨(some 32), none, .fieldAddr 0 (.t 3)⟩,
    ⟨(some 33), none, .load false 1 (.t 32)⟩,
    ⟨(some 34), none, .bin .eql 3 (.t 33) (.c (.int .i64 14))⟩,
    ⟨(some 35), none, .move (.t 34)⟩,
    ⟨(some 36), (some (35, true)), .move (.t 0)⟩,
    ⟨(some 37), (some (35, true)), .nilCheck (.t 36)⟩,
    ⟨(some 38), (some (35, true)), .fieldAddr 6 (.t 37)⟩,
    ⟨(some 39), (some (35, true)), .load false 1 (.t 38)⟩,
    ⟨(some 40), (some (35, true)), .nilCheck (.t 39)⟩,
    ⟨(some 41), (some (35, true)), .fieldAddr 1 (.t 40)⟩,
    ⟨(some 42), (some (35, true)), .load false 1 (.t 41)⟩,
    ⟨(some 43), (some (35, true)), .call (.c (.func (.func 253) #[] #[])) [(.t 42)]⟩,
    ⟨(some 44), (some (35, true)), .bin .eql 3 (.t 43) (.c (.int .i64 0))⟩,
    ⟨(some 45), none, .pick (.t 35) (.t 44) (.c (.bool false))⟩,
    ⟨(some 31), none, .move (.t 45)⟩] (some [0, 3, 5, 6, 31]))
  (.cond (.t 31)
   (.seq (.ops [⟨(some 46), none, .call (.c (.func (.func 99) #[] #[])) [(.c (.int .i64 0))]⟩,
     ⟨(some 4), none, .move (.c (.pointer none))⟩,
     ⟨none, none, .store 12 (.t 5) (.t 46)⟩] (some [4, 5]))
   .ret)
   (.seq (.ops [⟨(some 48), none, .fieldAddr 0 (.t 3)⟩,
     ⟨(some 49), none, .load false 1 (.t 48)⟩,
     ⟨(some 50), none, .bin .eql 3 (.t 49) (.c (.int .i64 14))⟩,
     ⟨(some 47), none, .move (.t 50)⟩] (some [0, 3, 5, 6, 47]))
   (.cond (.t 47)
    (.opsd [(0, 0, ⟨(some 52), none, .move (.t 0)⟩),
      (1, 1, ⟨(some 53), none, .nilCheck (.t 52)⟩),
      (2, 3, ⟨(some 54), none, .fieldAddr 0 (.t 53)⟩),
      (3, 7, ⟨(some 55), none, .load false 1 (.t 54)⟩),
      (4, 0, ⟨(some 56), none, .move (.t 0)⟩),
      (5, 16, ⟨(some 57), none, .nilCheck (.t 56)⟩),
      (6, 48, ⟨(some 58), none, .fieldAddr 1 (.t 57)⟩),
      (7, 112, ⟨(some 59), none, .load false 1 (.t 58)⟩),
      (8, 0, ⟨(some 60), none, .move (.t 0)⟩),
      (9, 256, ⟨(some 61), none, .nilCheck (.t 60)⟩),
      (10, 768, ⟨(some 62), none, .fieldAddr 6 (.t 61)⟩),
      (11, 1792, ⟨(some 63), none, .load false 1 (.t 62)⟩),
      (12, 3840, ⟨(some 64), none, .nilCheck (.t 63)⟩),
      (13, 7936, ⟨(some 65), none, .fieldAddr 2 (.t 64)⟩),
      (14, 16128, ⟨(some 66), none, .load false 1 (.t 65)⟩),
      (15, 0, ⟨(some 67), none, .move (.t 0)⟩),
      (16, 32768, ⟨(some 68), none, .nilCheck (.t 67)⟩),
      (17, 98304, ⟨(some 69), none, .fieldAddr 6 (.t 68)⟩),
      (18, 229376, ⟨(some 70), none, .load false 1 (.t 69)⟩),
      (19, 491520, ⟨(some 71), none, .nilCheck (.t 70)⟩),
      (20, 1015808, ⟨(some 72), none, .fieldAddr 1 (.t 71)⟩),
      (21, 2064384, ⟨(some 73), none, .load false 1 (.t 72)⟩),
      (23, 0, ⟨(some 75), none, .move (.t 0)⟩),
      (24, 8388608, ⟨(some 76), none, .nilCheck (.t 75)⟩),
      (25, 25165824, ⟨(some 77), none, .fieldAddr 6 (.t 76)⟩),
      (26, 58720256, ⟨(some 78), none, .load false 1 (.t 77)⟩),
      (27, 125829120, ⟨(some 79), none, .nilCheck (.t 78)⟩),
      (28, 260046848, ⟨(some 80), none, .fieldAddr 0 (.t 79)⟩),
      (29, 528482304, ⟨(some 81), none, .load false 1 (.t 80)⟩),
      (22, 4161536, ⟨(some 74), none, .call (.c (.func (.func 255) #[] #[])) [(.t 73)]⟩),
      (30, 1073741823, ⟨(some 82), none, .call (.c (.func (.func 254) #[] #[])) [(.t 55), (.t 59), (.t 66), (.t 74), (.t 81)]⟩),
      (31, 2147483647, ⟨(some 51), none, .move (.t 82)⟩),
      (32, 4294967295, ⟨(some 83), none, .extract (.t 51) 0⟩),
      (33, 4294967295, ⟨(some 84), none, .extract (.t 51) 1⟩),
      (34, 8589934591, ⟨(some 6), none, .move (.t 83)⟩),
      (35, 34359738367, ⟨(some 7), none, .move (.t 84)⟩)] (some [5, 6, 7]))
    (.seq (.ops [⟨(some 86), none, .move (.t 0)⟩,
      ⟨(some 87), none, .nilCheck (.t 86)⟩,
      ⟨(some 88), none, .fieldAddr 6 (.t 87)⟩,
      ⟨(some 89), none, .load false 1 (.t 88)⟩,
      ⟨(some 90), none, .isNil .ptr true (.t 89)⟩,
      ⟨(some 85), none, .move (.t 90)⟩] (some [0, 3, 5, 6, 85]))
    (.cond (.t 85)
     (.ops [⟨(some 7), none, .move (.c (.int .i64 9))⟩] (some [5, 6, 7]))
     (.seq (.ops [⟨(some 92), none, .move (.t 0)⟩,
       ⟨(some 93), none, .nilCheck (.t 92)⟩,
       ⟨(some 94), none, .fieldAddr 5 (.t 93)⟩,
       ⟨(some 95), none, .load false 1 (.t 94)⟩,
       ⟨(some 96), none, .len (.t 95)⟩,
       ⟨(some 97), none, .bin .gtr 3 (.t 96) (.c (.int .i64 0))⟩,
       ⟨(some 91), none, .move (.t 97)⟩] (some [0, 3, 5, 6, 91]))
     (.cond (.t 91)
      (.ops [⟨(some 7), none, .move (.c (.int .i64 11))⟩] (some [5, 6, 7]))
      (.seq (.ops [⟨(some 99), none, .fieldAddr 0 (.t 3)⟩,
        ⟨(some 100), none, .load false 1 (.t 99)⟩,
        ⟨(some 101), none, .bin .eql 3 (.t 100) (.c (.int .i64 5))⟩,
        ⟨(some 98), none, .move (.t 101)⟩] (some [0, 3, 5, 98]))
      (.cond (.t 98)
       (.opsd [(0, 0, ⟨(some 103), none, .move (.t 0)⟩),
         (1, 1, ⟨(some 104), none, .nilCheck (.t 103)⟩),
         (2, 3, ⟨(some 105), none, .fieldAddr 0 (.t 104)⟩),
         (3, 7, ⟨(some 106), none, .load false 1 (.t 105)⟩),
         (4, 0, ⟨(some 107), none, .move (.t 0)⟩),
         (5, 16, ⟨(some 108), none, .nilCheck (.t 107)⟩),
         (6, 48, ⟨(some 109), none, .fieldAddr 1 (.t 108)⟩),
         (7, 112, ⟨(some 110), none, .load false 1 (.t 109)⟩),
         (8, 0, ⟨(some 111), none, .move (.t 0)⟩),
         (9, 256, ⟨(some 112), none, .nilCheck (.t 111)⟩),
         (10, 768, ⟨(some 113), none, .fieldAddr 4 (.t 112)⟩),
         (11, 1792, ⟨(some 114), none, .load false 1 (.t 113)⟩),
         (12, 3840, ⟨(some 115), none, .build [(.int .i64 0), (.int .i64 0), (.int .i64 0), (.int .u64 0), (.bool false)] [(0, 1), (1, 1), (2, 1), (3, 1), (4, 1)] [(0, (.c (.int .i64 1))), (1, (.t 114))]⟩),
         (13, 8191, ⟨(some 116), none, .call (.c (.func (.func 256) #[] #[])) [(.t 106), (.t 110), (.t 115)]⟩),
         (14, 16383, ⟨(some 102), none, .move (.t 116)⟩),
         (15, 32767, ⟨(some 117), none, .extract (.t 102) 0⟩),
         (16, 32767, ⟨(some 118), none, .extract (.t 102) 1⟩),
         (17, 65535, ⟨(some 6), none, .move (.t 117)⟩),
         (18, 262143, ⟨(some 7), none, .move (.t 118)⟩)] (some [5, 6, 7]))
       (.opsd [(0, 0, ⟨(some 9), none, .move (.t 0)⟩),
         (1, 1, ⟨(some 10), none, .nilCheck (.t 9)⟩),
         (2, 3, ⟨(some 11), none, .fieldAddr 0 (.t 10)⟩),
         (3, 7, ⟨(some 12), none, .load false 1 (.t 11)⟩),
         (4, 0, ⟨(some 13), none, .move (.t 0)⟩),
         (5, 16, ⟨(some 14), none, .nilCheck (.t 13)⟩),
         (6, 48, ⟨(some 15), none, .fieldAddr 1 (.t 14)⟩),
         (7, 112, ⟨(some 16), none, .load false 1 (.t 15)⟩),
         (8, 0, ⟨(some 17), none, .move (.t 0)⟩),
         (9, 256, ⟨(some 18), none, .nilCheck (.t 17)⟩),
         (10, 768, ⟨(some 19), none, .fieldAddr 4 (.t 18)⟩),
         (11, 1792, ⟨(some 20), none, .load false 1 (.t 19)⟩),
         (12, 0, ⟨(some 21), none, .fieldAddr 1 (.t 3)⟩),
         (13, 4096, ⟨(some 22), none, .load false 1 (.t 21)⟩),
         (14, 0, ⟨(some 23), none, .fieldAddr 3 (.t 3)⟩),
         (15, 16384, ⟨(some 24), none, .load false 1 (.t 23)⟩),
         (16, 0, ⟨(some 25), none, .fieldAddr 4 (.t 3)⟩),
         (17, 65536, ⟨(some 26), none, .load false 1 (.t 25)⟩),
         (18, 261888, ⟨(some 27), none, .build [(.int .i64 0), (.int .i64 0), (.int .i64 0), (.int .u64 0), (.bool false)] [(0, 1), (1, 1), (2, 1), (3, 1), (4, 1)] [(0, (.c (.int .i64 2))), (1, (.t 20)), (2, (.t 22)), (3, (.t 24)), (4, (.t 26))]⟩),
         (19, 524287, ⟨(some 28), none, .call (.c (.func (.func 256) #[] #[])) [(.t 12), (.t 16), (.t 27)]⟩),
         (20, 1048575, ⟨(some 8), none, .move (.t 28)⟩),
         (21, 2097151, ⟨(some 29), none, .extract (.t 8) 0⟩),
         (22, 2097151, ⟨(some 30), none, .extract (.t 8) 1⟩),
         (23, 4194303, ⟨(some 6), none, .move (.t 29)⟩),
         (24, 16777215, ⟨(some 7), none, .move (.t 30)⟩)] (some [5, 6, 7])))))))))))))
 (.seq (.ops [⟨(some 119), none, .move (.t 6)⟩,
   ⟨(some 120), none, .move (.t 7)⟩,
   ⟨(some 121), none, .call (.c (.func (.func 99) #[] #[])) [(.t 120)]⟩,
   ⟨(some 4), none, .move (.t 119)⟩,
   ⟨none, none, .store 12 (.t 5) (.t 121)⟩] (some [4, 5]))
 .ret))))), [.tmp 4, .cell true 12 5]⟩

theorem is166 : FnIs Tryz.prog 166 x166 := ⟨Tryz.f166, _, Tryz.func166, by kernel_rfl, rfl, by kernel_rfl, by decide, by kernel_rfl⟩

/-- (*cloisonne/sess.Session).write -/
def x172 : XDecl := .code ⟨2, 
 (.seq (.ops [⟨(some 3), none, .box (.t 1)⟩,
   ⟨(some 4), none, .alloc [(.int .i64 0), (.int .u64 0), (.bool false), (.bool false), (.string .empty), (.int .u64 0), (.slice none 0 0), (.int .i64 0), (.int .u64 0), (.int .u64 0), (.int .u64 0), (.int .u64 0)]⟩] (some [0, 3, 4]))
 (.seq (.seq (.ops [⟨(some 6), none, .move (.t 0)⟩,
   ⟨(some 7), none, .fieldAddr 5 (.t 3)⟩,
   ⟨(some 8), none, .load false 1 (.t 7)⟩,
   ⟨(some 9), none, .call (.c (.func (.func 264) #[] #[])) [(.t 6), (.t 8)]⟩,
   ⟨(some 5), none, .move (.t 9)⟩] (some [0, 3, 4, 5]))
 (.seq (.ops [⟨(some 10), none, .move (.t 5)⟩,
   ⟨(some 11), none, .bin .neq 34 (.t 10) (.c (.int .i64 0))⟩] (some [0, 3, 4, 5, 11]))
 (.cond (.t 11)
  (.seq (.ops [⟨(some 12), none, .move (.t 5)⟩,
    ⟨(some 13), none, .call (.c (.func (.func 99) #[] #[])) [(.t 12)]⟩,
    ⟨none, none, .store 12 (.t 4) (.t 13)⟩] (some [4]))
  .ret)
  .skip)))
 (.seq (.seq (.ops [⟨(some 14), none, .fieldAddr 0 (.t 3)⟩,
   ⟨(some 15), none, .load false 1 (.t 14)⟩,
   ⟨(some 16), none, .bin .eql 3 (.t 15) (.c (.int .i64 10))⟩] (some [0, 3, 4, 16]))
 (.cond (.t 16)
  (.seq (.opsd [(0, 0, ⟨(some 17), none, .move (.t 0)⟩),
    (1, 1, ⟨(some 18), none, .nilCheck (.t 17)⟩),
    (2, 3, ⟨(some 19), none, .fieldAddr 6 (.t 18)⟩),
    (3, 7, ⟨(some 20), none, .load false 1 (.t 19)⟩),
    (4, 15, ⟨(some 21), none, .nilCheck (.t 20)⟩),
    (5, 31, ⟨(some 22), none, .fieldAddr 1 (.t 21)⟩),
    (6, 63, ⟨(some 23), none, .load false 1 (.t 22)⟩),
    (7, 0, ⟨(some 24), none, .fieldAddr 6 (.t 3)⟩),
    (8, 128, ⟨(some 25), none, .load false 1 (.t 24)⟩),
    (9, 511, ⟨(some 26), none, .call (.c (.func (.func 265) #[] #[])) [(.t 23), (.t 25)]⟩),
    (10, 1023, ⟨(some 27), none, .call (.c (.func (.func 99) #[] #[])) [(.t 26)]⟩),
    (11, 2047, ⟨none, none, .store 12 (.t 4) (.t 27)⟩)] (some [4]))
  .ret)
  .skip))
 (.seq (.opsd [(0, 0, ⟨(some 28), none, .move (.t 0)⟩),
   (1, 1, ⟨(some 29), none, .nilCheck (.t 28)⟩),
   (2, 3, ⟨(some 30), none, .fieldAddr 6 (.t 29)⟩),
   (3, 7, ⟨(some 31), none, .load false 1 (.t 30)⟩),
   (4, 15, ⟨(some 32), none, .nilCheck (.t 31)⟩),
   (5, 31, ⟨(some 33), none, .fieldAddr 1 (.t 32)⟩),
   (6, 63, ⟨(some 34), none, .load false 1 (.t 33)⟩),
   (7, 0, ⟨(some 35), none, .fieldAddr 6 (.t 3)⟩),
   (8, 128, ⟨(some 36), none, .load false 1 (.t 35)⟩),
   (9, 0, ⟨(some 37), none, .fieldAddr 7 (.t 3)⟩),
   (10, 512, ⟨(some 38), none, .load true 3 (.t 37)⟩),
   (11, 2047, ⟨(some 39), none, .call (.c (.func (.func 266) #[] #[])) [(.t 34), (.t 36), (.t 38)]⟩),
   (12, 4095, ⟨(some 40), none, .call (.c (.func (.func 99) #[] #[])) [(.t 39)]⟩),
   (13, 8191, ⟨none, none, .store 12 (.t 4) (.t 40)⟩)] (some [4]))
 .ret)))), [.cell true 12 4]⟩

theorem is172 : FnIs Tryz.prog 172 x172 := ⟨Tryz.f172, _, Tryz.func172, by kernel_rfl, rfl, by kernel_rfl, by decide, by kernel_rfl⟩

/-- slices.Index[[]cloisonne/ask.field,cloisonne/ask.field] -/
def x175 : XDecl := .code ⟨2, 
 (.seq (.ops [⟨(some 4), none, .move (.c (.int .i64 0))⟩] (some [0, 1]))
 (.seq (.seq (.ops [⟨(some 6), none, .move (.t 0)⟩,
   ⟨(some 7), none, .len (.t 6)⟩,
   ⟨(some 8), none, .move (.c (.int .i64 0))⟩] (some [0, 1, 7, 8]))
 (.block 0
  (.loop
   (.seq (.ops [⟨(some 9), none, .bin .lss 3 (.t 8) (.t 7)⟩] (some [0, 1, 7, 8, 9]))
   (.seq (.cond (.t 9)
    .skip
    (.exit 0))
   (.seq (.block 1
    (.seq (.ops [⟨(some 10), none, .move (.t 8)⟩,
      ⟨(some 5), none, .move (.t 10)⟩] (some [0, 1, 5, 7, 8]))
    (.seq (.ops [⟨(some 11), none, .move (.t 1)⟩,
      ⟨(some 12), none, .move (.t 0)⟩,
      ⟨(some 13), none, .move (.t 5)⟩,
      ⟨(some 14), none, .indexAddr 1 (.t 12) (.t 13)⟩,
      ⟨(some 15), none, .load false 1 (.t 14)⟩,
      ⟨(some 16), none, .bin .eql 193 (.t 11) (.t 15)⟩] (some [0, 1, 5, 7, 8, 16]))
    (.cond (.t 16)
     (.seq (.ops [⟨(some 17), none, .move (.t 5)⟩,
       ⟨(some 4), none, .move (.t 17)⟩] (some [4]))
     .ret)
     .skip))))
   (.ops [⟨(some 18), none, .bin .add 3 (.t 8) (.c (.int .i64 1))⟩,
     ⟨(some 8), none, .move (.t 18)⟩] (some [0, 1, 7, 8]))))))))
 (.seq (.ops [⟨(some 4), none, .move (.c (.int .i64 (-1)))⟩] (some [4]))
 .ret))), [.tmp 4]⟩

theorem is175 : FnIs Tryz.prog 175 x175 := ⟨Tryz.f175, _, Tryz.func175, by kernel_rfl, rfl, by kernel_rfl, by decide, by kernel_rfl⟩

/-- cloisonne/label.Right -/
def x176 : XDecl := .code ⟨1, 
 (.seq (.ops [⟨(some 2), none, .move (.c (.bool false))⟩] (some [0]))
 (.seq (.seq (.ops [⟨(some 6), none, .move (.t 0)⟩,
   ⟨(some 7), none, .len (.t 6)⟩,
   ⟨(some 8), none, .bin .gtr 3 (.t 7) (.c (.int .i64 6))⟩] (some [0, 8]))
 (.cond (.t 8)
  (.seq (.ops [⟨(some 2), none, .move (.c (.bool false))⟩] (some [2]))
  .ret)
  .skip))
 (.seq (.ops [⟨(some 3), none, .move (.c (.int .u64 0))⟩] (some [0, 3]))
 (.seq (.seq (.ops [⟨(some 9), none, .move (.t 0)⟩,
   ⟨(some 10), none, .len (.t 9)⟩,
   ⟨(some 11), none, .move (.c (.int .i64 0))⟩] (some [3, 9, 10, 11]))
 (.block 0
  (.loop
   (.seq (.ops [⟨(some 12), none, .bin .lss 3 (.t 11) (.t 10)⟩] (some [3, 9, 10, 11, 12]))
   (.seq (.cond (.t 12)
    .skip
    (.exit 0))
   (.seq (.block 1
    (.seq (.ops [⟨(some 13), none, .indexAddr 1 (.t 9) (.t 11)⟩,
      ⟨(some 14), none, .load false 1 (.t 13)⟩,
      ⟨(some 5), none, .move (.t 14)⟩] (some [3, 5, 9, 10, 11]))
    (.seq (.seq (.ops [⟨(some 15), none, .move (.t 5)⟩,
      ⟨(some 16), none, .move (.t 3)⟩,
      ⟨(some 17), none, .bin .leq 23 (.t 15) (.t 16)⟩] (some [5, 9, 10, 11, 17]))
    (.cond (.t 17)
     (.seq (.ops [⟨(some 2), none, .move (.c (.bool false))⟩] (some [2]))
     .ret)
     .skip))
    (.ops [⟨(some 18), none, .move (.t 5)⟩,
      ⟨(some 3), none, .move (.t 18)⟩] (some [3, 9, 10, 11])))))
   (.ops [⟨(some 19), none, .bin .add 3 (.t 11) (.c (.int .i64 1))⟩,
     ⟨(some 11), none, .move (.t 19)⟩] (some [3, 9, 10, 11]))))))))
 (.seq (.ops [⟨(some 2), none, .move (.c (.bool true))⟩] (some [2]))
 .ret))))), [.tmp 2]⟩

theorem is176 : FnIs Tryz.prog 176 x176 := ⟨Tryz.f176, _, Tryz.func176, by kernel_rfl, rfl, by kernel_rfl, by decide, by kernel_rfl⟩

/-- cloisonne/wire.Print -/
def x181 : XDecl := .code ⟨2, 
 (.seq (.ops [⟨(some 4), none, .move (.c (.string .empty))⟩,
   ⟨(some 5), none, .alloc [(.int .i64 0)]⟩] (some [0, 1, 5]))
 (.seq (.ops [⟨none, none, .dfr [(.t 5)]⟩] (some [0, 1, 5]))
 (.seq (.ops [⟨(some 13), none, .move (.t 0)⟩,
   ⟨(some 14), none, .call (.c (.func (.func 276) #[] #[])) [(.t 13)]⟩,
   ⟨(some 12), none, .move (.t 14)⟩,
   ⟨(some 15), none, .extract (.t 12) 0⟩,
   ⟨(some 16), none, .extract (.t 12) 1⟩,
   ⟨(some 17), none, .extract (.t 12) 2⟩,
   ⟨(some 6), none, .move (.t 15)⟩,
   ⟨(some 7), none, .move (.t 16)⟩,
   ⟨(some 8), none, .move (.t 17)⟩] (some [1, 5, 6, 7, 8]))
 (.seq (.ops [⟨(some 18), none, .move (.t 8)⟩,
   ⟨(some 19), none, .move (.t 18)⟩,
   ⟨(some 20), (some (19, true)), .move (.t 6)⟩,
   ⟨(some 21), (some (19, true)), .len (.t 20)⟩,
   ⟨(some 22), (some (19, true)), .move (.t 1)⟩,
   ⟨(some 23), (some (19, true)), .len (.t 22)⟩,
   ⟨(some 24), (some (19, true)), .bin .eql 3 (.t 21) (.t 23)⟩,
   ⟨(some 25), none, .pick (.t 19) (.t 24) (.c (.bool false))⟩,
   ⟨(some 26), none, .call (.c (.func (.func 277) #[] #[])) [(.t 25), (.c (.int .i64 1))]⟩] (some [1, 5, 6, 7]))
 (.seq (.ops [⟨(some 27), none, .build [(.slice none 0 0)] [(0, 1)] []⟩,
   ⟨(some 28), none, .box (.t 27)⟩,
   ⟨(some 9), none, .move (.t 28)⟩] (some [1, 5, 6, 7, 9]))
 (.seq (.seq (.ops [⟨(some 29), none, .move (.t 1)⟩,
   ⟨(some 30), none, .len (.t 29)⟩,
   ⟨(some 31), none, .move (.c (.int .i64 0))⟩] (some [5, 6, 7, 9, 29, 30, 31]))
 (.block 0
  (.loop
   (.seq (.ops [⟨(some 32), none, .bin .lss 3 (.t 31) (.t 30)⟩] (some [5, 6, 7, 9, 29, 30, 31, 32]))
   (.seq (.cond (.t 32)
    .skip
    (.exit 0))
   (.seq (.block 1
    (.seq (.ops [⟨(some 33), none, .move (.t 31)⟩,
      ⟨(some 34), none, .indexAddr 4 (.t 29) (.t 31)⟩,
      ⟨(some 35), none, .load true 4 (.t 34)⟩,
      ⟨(some 11), none, .alloc [(.int .u64 0), (.string .empty), (.slice none 0 0), (.slice none 0 0)]⟩,
      ⟨(some 10), none, .move (.t 33)⟩,
      ⟨none, none, .store 4 (.t 11) (.t 35)⟩] (some [5, 6, 7, 9, 10, 11, 29, 30, 31]))
    (.seq (.ops [⟨(some 36), none, .move (.t 7)⟩,
      ⟨(some 37), none, .move (.t 10)⟩,
      ⟨(some 38), none, .indexAddr 1 (.t 36) (.t 37)⟩,
      ⟨(some 39), none, .load false 1 (.t 38)⟩] (some [5, 6, 7, 9, 10, 11, 29, 30, 31, 39]))
    (.cond (.t 39)
     (.opsd [(0, 0, ⟨(some 40), none, .move (.t 9)⟩),
       (1, 0, ⟨(some 41), none, .move (.t 6)⟩),
       (2, 0, ⟨(some 42), none, .move (.t 10)⟩),
       (3, 6, ⟨(some 43), none, .indexAddr 1 (.t 41) (.t 42)⟩),
       (4, 14, ⟨(some 44), none, .load false 1 (.t 43)⟩),
       (5, 0, ⟨(some 45), none, .load true 4 (.t 11)⟩),
       (6, 63, ⟨(some 46), none, .call (.c (.func (.func 278) #[] #[])) [(.t 40), (.t 44), (.t 45)]⟩)] (some [5, 6, 7, 9, 29, 30, 31]))
     (.opsd [(0, 0, ⟨(some 47), none, .move (.t 9)⟩),
       (1, 0, ⟨(some 48), none, .move (.t 6)⟩),
       (2, 0, ⟨(some 49), none, .move (.t 10)⟩),
       (3, 6, ⟨(some 50), none, .indexAddr 1 (.t 48) (.t 49)⟩),
       (4, 14, ⟨(some 51), none, .load false 1 (.t 50)⟩),
       (5, 0, ⟨(some 52), none, .load true 4 (.t 11)⟩),
       (6, 63, ⟨(some 53), none, .call (.c (.func (.func 279) #[] #[])) [(.t 47), (.t 51), (.t 52)]⟩)] (some [5, 6, 7, 9, 29, 30, 31]))))))
   (.ops [⟨(some 54), none, .bin .add 3 (.t 31) (.c (.int .i64 1))⟩,
     ⟨(some 31), none, .move (.t 54)⟩] (some [5, 6, 7, 9, 29, 30, 31]))))))))
 (.seq (.ops [⟨(some 55), none, .move (.t 9)⟩,
   ⟨(some 56), none, .nilCheck (.t 55)⟩,
   ⟨(some 57), none, .fieldAddr 0 (.t 56)⟩,
   ⟨(some 58), none, .load false 1 (.t 57)⟩,
   ⟨(some 59), none, .bstr (.t 58)⟩,
   ⟨(some 4), none, .move (.t 59)⟩,
   ⟨none, none, .store 1 (.t 5) (.c (.int .i64 0))⟩] (some [4, 5]))
 .ret))))))), [.tmp 4, .cell false 1 5]⟩

theorem is181 : FnIs Tryz.prog 181 x181 := ⟨Tryz.f181, _, Tryz.func181, by kernel_rfl, rfl, by kernel_rfl, by decide, by kernel_rfl⟩

/-- (*cloisonne/tree.Tree).Get -/
def x193 : XDecl := .code ⟨2, 
 (.seq (.ops [⟨(some 4), none, .move (.c (.int .i64 0))⟩,
   ⟨(some 5), none, .move (.c (.bool false))⟩] (some [0, 1]))
 (.seq (.ops [⟨(some 10), none, .move (.t 0)⟩,
   ⟨(some 11), none, .move (.t 1)⟩,
   ⟨(some 12), none, .call (.c (.func (.func 290) #[] #[])) [(.t 10), (.t 11)]⟩,
   ⟨(some 9), none, .move (.t 12)⟩,
   ⟨(some 13), none, .extract (.t 9) 0⟩,
   ⟨(some 14), none, .extract (.t 9) 1⟩,
   ⟨(some 15), none, .extract (.t 9) 2⟩,
   ⟨(some 6), none, .move (.t 13)⟩,
   ⟨(some 7), none, .move (.t 14)⟩,
   ⟨(some 8), none, .move (.t 15)⟩] (some [6, 7, 8]))
 (.seq (.seq (.ops [⟨(some 16), none, .move (.t 8)⟩,
   ⟨(some 17), none, .un .not (.t 16)⟩] (some [6, 7, 17]))
 (.cond (.t 17)
  (.seq (.ops [⟨(some 4), none, .move (.c (.int .i64 0))⟩,
    ⟨(some 5), none, .move (.c (.bool false))⟩] (some [4, 5]))
  .ret)
  .skip))
 (.seq (.ops [⟨(some 18), none, .move (.t 6)⟩,
   ⟨(some 19), none, .nilCheck (.t 18)⟩,
   ⟨(some 20), none, .fieldAddr 1 (.t 19)⟩,
   ⟨(some 21), none, .load false 1 (.t 20)⟩,
   ⟨(some 22), none, .move (.t 7)⟩,
   ⟨(some 23), none, .indexAddr 1 (.t 21) (.t 22)⟩,
   ⟨(some 24), none, .load false 1 (.t 23)⟩,
   ⟨(some 4), none, .move (.t 24)⟩,
   ⟨(some 5), none, .move (.c (.bool true))⟩] (some [4, 5]))
 .ret)))), [.tmp 4, .tmp 5]⟩

theorem is193 : FnIs Tryz.prog 193 x193 := ⟨Tryz.f193, _, Tryz.func193, by kernel_rfl, rfl, by kernel_rfl, by decide, by kernel_rfl⟩

/-- cloisonne/chain.Right -/
def x194 : XDecl := .code ⟨1, 
 (.seq (.ops [⟨(some 2), none, .move (.c (.bool false))⟩] (some [0]))
 (.seq (.seq (.ops [⟨(some 5), none, .move (.t 0)⟩,
   ⟨(some 6), none, .len (.t 5)⟩,
   ⟨(some 7), none, .move (.c (.int .i64 0))⟩] (some [0, 5, 6, 7]))
 (.block 0
  (.loop
   (.seq (.ops [⟨(some 8), none, .bin .lss 3 (.t 7) (.t 6)⟩] (some [0, 5, 6, 7, 8]))
   (.seq (.cond (.t 8)
    .skip
    (.exit 0))
   (.seq (.block 1
    (.seq (.ops [⟨(some 9), none, .move (.t 7)⟩,
      ⟨(some 10), none, .indexAddr 5 (.t 5) (.t 7)⟩,
      ⟨(some 11), none, .load true 5 (.t 10)⟩,
      ⟨(some 4), none, .alloc [(.int .i64 0), (.bool false), (.bool false), (.string .empty), (.int .u64 0)]⟩,
      ⟨(some 3), none, .move (.t 9)⟩,
      ⟨none, none, .store 5 (.t 4) (.t 11)⟩] (some [0, 3, 4, 5, 6, 7]))
    (.seq (.opsd [(0, 0, ⟨(some 12), none, .load true 5 (.t 4)⟩),
      (1, 1, ⟨(some 13), none, .call (.c (.func (.func 291) #[] #[])) [(.t 12)]⟩),
      (2, 3, ⟨(some 14), none, .un .not (.t 13)⟩),
      (3, 7, ⟨(some 15), none, .move (.t 14)⟩),
      (4, 15, ⟨(some 16), (some (15, false)), .move (.t 3)⟩),
      (5, 31, ⟨(some 17), (some (15, false)), .bin .gtr 3 (.t 16) (.c (.int .i64 0))⟩),
      (6, 63, ⟨(some 18), (some (15, false)), .move (.t 17)⟩),
      (7, 127, ⟨(some 19), (some (18, true)), .move (.t 0)⟩),
      (8, 127, ⟨(some 20), (some (18, true)), .move (.t 3)⟩),
      (9, 383, ⟨(some 21), (some (18, true)), .bin .sub 3 (.t 20) (.c (.int .i64 1))⟩),
      (10, 1023, ⟨(some 22), (some (18, true)), .indexAddr 5 (.t 19) (.t 21)⟩),
      (11, 2047, ⟨(some 23), (some (18, true)), .fieldAddr 0 (.t 22)⟩),
      (12, 4095, ⟨(some 24), (some (18, true)), .load false 1 (.t 23)⟩),
      (13, 127, ⟨(some 25), (some (18, true)), .fieldAddr 0 (.t 4)⟩),
      (14, 8319, ⟨(some 26), (some (18, true)), .load false 1 (.t 25)⟩),
      (15, 32767, ⟨(some 27), (some (18, true)), .bin .geq 3 (.t 24) (.t 26)⟩),
      (16, 65535, ⟨(some 28), (some (15, false)), .pick (.t 18) (.t 27) (.c (.bool false))⟩),
      (17, 131071, ⟨(some 29), none, .pick (.t 15) (.c (.bool true)) (.t 28)⟩)] (some [0, 5, 6, 7, 29]))
    (.cond (.t 29)
     (.seq (.ops [⟨(some 2), none, .move (.c (.bool false))⟩] (some [2]))
     .ret)
     .skip))))
   (.ops [⟨(some 30), none, .bin .add 3 (.t 7) (.c (.int .i64 1))⟩,
     ⟨(some 7), none, .move (.t 30)⟩] (some [0, 5, 6, 7]))))))))
 (.seq (.ops [⟨(some 2), none, .move (.c (.bool true))⟩] (some [2]))
 .ret))), [.tmp 2]⟩

theorem is194 : FnIs Tryz.prog 194 x194 := ⟨Tryz.f194, _, Tryz.func194, by kernel_rfl, rfl, by kernel_rfl, by decide, by kernel_rfl⟩

/-- (*cloisonne/ring.Ring).Floor -/
def x196 : XDecl := .code ⟨1, 
 (.seq (.ops [⟨(some 2), none, .move (.c (.int .i64 0))⟩] (some [0]))
 (.seq (.seq (.ops [⟨(some 3), none, .move (.t 0)⟩,
   ⟨(some 4), none, .isNil .ptr false (.t 3)⟩] (some [0, 4]))
 (.cond (.t 4)
  (.seq (.ops [⟨(some 2), none, .move (.c (.int .i64 0))⟩] (some [2]))
  .ret)
  .skip))
 (.seq (.opsr [⟨(some 5), none, .move (.t 0)⟩,
   ⟨(some 6), none, .nilCheck (.t 5)⟩,
   ⟨(some 7), none, .fieldAddr 2 (.t 6)⟩,
   ⟨(some 8), none, .load false 1 (.t 7)⟩,
   ⟨(some 9), none, .move (.t 0)⟩,
   ⟨(some 10), none, .nilCheck (.t 9)⟩,
   ⟨(some 11), none, .fieldAddr 0 (.t 10)⟩,
   ⟨(some 12), none, .load false 1 (.t 11)⟩,
   ⟨(some 13), none, .bin .sub 3 (.t 8) (.t 12)⟩,
   ⟨(some 14), none, .bin .add 3 (.t 13) (.c (.int .i64 1))⟩,
   ⟨(some 15), none, .move (.t 0)⟩,
   ⟨(some 16), none, .nilCheck (.t 15)⟩,
   ⟨(some 17), none, .fieldAddr 1 (.t 16)⟩,
   ⟨(some 18), none, .load false 1 (.t 17)⟩,
   ⟨(some 19), none, .calcB .max [3, 3] 3 [(.t 14), (.t 18)]⟩,
   ⟨(some 2), none, .move (.t 19)⟩] (some [2]))
 .ret))), [.tmp 2]⟩

theorem is196 : FnIs Tryz.prog 196 x196 := ⟨Tryz.f196, _, Tryz.func196, by kernel_rfl, rfl, by kernel_rfl, by decide, by kernel_rfl⟩

/-- cloisonne/room.lives -/
def x197 : XDecl := .code ⟨2, 
 (.seq (.ops [⟨(some 4), none, .move (.c (.int .i64 0))⟩] (some [0, 1]))
 (.seq (.ops [⟨(some 6), none, .move (.t 1)⟩,
   ⟨(some 7), none, .call (.c (.func (.func 294) #[] #[])) [(.t 6)]⟩,
   ⟨(some 5), none, .move (.t 7)⟩] (some [0, 5]))
 (.seq (.seq (.ops [⟨(some 8), none, .move (.t 5)⟩,
   ⟨(some 9), none, .bin .eql 3 (.t 8) (.c (.int .i64 0))⟩] (some [0, 5, 9]))
 (.cond (.t 9)
  (.seq (.ops [⟨(some 4), none, .move (.c (.int .i64 0))⟩] (some [4]))
  .ret)
  .skip))
 (.seq (.ops [⟨(some 10), none, .move (.t 0)⟩,
   ⟨(some 11), none, .calcB .len [9] 3 [(.t 10)]⟩,
   ⟨(some 12), none, .move (.t 5)⟩,
   ⟨(some 13), none, .bin .add 3 (.t 11) (.t 12)⟩,
   ⟨(some 4), none, .move (.t 13)⟩] (some [4]))
 .ret)))), [.tmp 4]⟩

theorem is197 : FnIs Tryz.prog 197 x197 := ⟨Tryz.f197, _, Tryz.func197, by kernel_rfl, rfl, by kernel_rfl, by decide, by kernel_rfl⟩

/-- (*cloisonne/tree.Tree).Put -/
def x199 : XDecl := .code ⟨3, 
 (.seq (.ops [⟨(some 6), none, .move (.c (.int .i64 0))⟩,
   ⟨(some 7), none, .move (.c (.bool false))⟩,
   ⟨(some 8), none, .move (.c (.int .i64 0))⟩] (some [0, 1, 2]))
 (.seq (.seq (.ops [⟨(some 16), none, .move (.t 0)⟩,
   ⟨(some 17), none, .isNil .ptr false (.t 16)⟩] (some [0, 1, 2, 17]))
 (.cond (.t 17)
  (.seq (.ops [⟨(some 6), none, .move (.c (.int .i64 0))⟩,
    ⟨(some 7), none, .move (.c (.bool false))⟩,
    ⟨(some 8), none, .move (.c (.int .i64 2))⟩] (some [6, 7, 8]))
  .ret)
  .skip))
 (.seq (.seq (.ops [⟨(some 19), none, .move (.t 0)⟩,
   ⟨(some 20), none, .move (.t 1)⟩,
   ⟨(some 21), none, .call (.c (.func (.func 290) #[] #[])) [(.t 19), (.t 20)]⟩,
   ⟨(some 18), none, .move (.t 21)⟩,
   ⟨(some 22), none, .extract (.t 18) 0⟩,
   ⟨(some 23), none, .extract (.t 18) 1⟩,
   ⟨(some 24), none, .extract (.t 18) 2⟩,
   ⟨(some 9), none, .move (.t 22)⟩,
   ⟨(some 10), none, .move (.t 23)⟩,
   ⟨(some 11), none, .move (.t 24)⟩] (some [0, 1, 2, 9, 10, 11]))
 (.seq (.ops [⟨(some 25), none, .move (.t 11)⟩] (some [0, 1, 2, 9, 10, 25]))
 (.cond (.t 25)
  (.seq (.ops [⟨(some 26), none, .move (.t 9)⟩,
    ⟨(some 27), none, .nilCheck (.t 26)⟩,
    ⟨(some 28), none, .fieldAddr 1 (.t 27)⟩,
    ⟨(some 29), none, .load false 1 (.t 28)⟩,
    ⟨(some 30), none, .move (.t 10)⟩,
    ⟨(some 31), none, .indexAddr 1 (.t 29) (.t 30)⟩,
    ⟨(some 32), none, .load false 1 (.t 31)⟩,
    ⟨(some 12), none, .move (.t 32)⟩] (some [2, 9, 10, 12]))
  (.seq (.ops [⟨(some 33), none, .move (.t 9)⟩,
    ⟨(some 34), none, .nilCheck (.t 33)⟩,
    ⟨(some 35), none, .fieldAddr 1 (.t 34)⟩,
    ⟨(some 36), none, .load false 1 (.t 35)⟩,
    ⟨(some 37), none, .move (.t 10)⟩,
    ⟨(some 38), none, .move (.t 2)⟩,
    ⟨(some 39), none, .indexAddr 1 (.t 36) (.t 37)⟩,
    ⟨none, none, .store 1 (.t 39) (.t 38)⟩] (some [12]))
  (.seq (.ops [⟨(some 40), none, .move (.t 12)⟩,
    ⟨(some 6), none, .move (.t 40)⟩,
    ⟨(some 7), none, .move (.c (.bool true))⟩,
    ⟨(some 8), none, .move (.c (.int .i64 0))⟩] (some [6, 7, 8]))
  .ret)))
  .skip)))
 (.seq (.seq (.ops [⟨(some 41), none, .move (.t 0)⟩,
   ⟨(some 42), none, .nilCheck (.t 41)⟩,
   ⟨(some 43), none, .fieldAddr 3 (.t 42)⟩,
   ⟨(some 44), none, .load false 1 (.t 43)⟩,
   ⟨(some 45), none, .bin .geq 3 (.t 44) (.c (.int .i64 100000))⟩] (some [0, 1, 2, 45]))
 (.cond (.t 45)
  (.seq (.ops [⟨(some 6), none, .move (.c (.int .i64 0))⟩,
    ⟨(some 7), none, .move (.c (.bool false))⟩,
    ⟨(some 8), none, .move (.c (.int .i64 5))⟩] (some [6, 7, 8]))
  .ret)
  .skip))
 (.seq (.ops [⟨(some 46), none, .move (.t 0)⟩,
   ⟨(some 47), none, .nilCheck (.t 46)⟩,
   ⟨(some 48), none, .fieldAddr 3 (.t 47)⟩,
   ⟨(some 49), none, .load false 1 (.t 48)⟩,
   ⟨(some 50), none, .bin .add 3 (.t 49) (.c (.int .i64 1))⟩,
   ⟨(some 51), none, .nilCheck (.t 46)⟩,
   ⟨(some 52), none, .fieldAddr 3 (.t 51)⟩,
   ⟨none, none, .store 1 (.t 52) (.t 50)⟩] (some [0, 1, 2]))
 (.seq (.seq (.ops [⟨(some 53), none, .move (.t 0)⟩,
   ⟨(some 54), none, .nilCheck (.t 53)⟩,
   ⟨(some 55), none, .fieldAddr 2 (.t 54)⟩,
   ⟨(some 56), none, .load false 1 (.t 55)⟩,
   ⟨(some 57), none, .bin .lss 3 (.t 56) (.c (.int .i64 0))⟩] (some [0, 1, 2, 57]))
 (.cond (.t 57)
  (.seq (.ops [⟨(some 58), none, .move (.t 0)⟩,
    ⟨(some 59), none, .move (.t 0)⟩,
    ⟨(some 60), none, .move (.t 1)⟩,
    ⟨(some 61), none, .buildSlice [(.string .empty)] 1 1 [(0, (.t 60))]⟩,
    ⟨(some 62), none, .move (.t 2)⟩,
    ⟨(some 63), none, .buildSlice [(.int .i64 0)] 1 1 [(0, (.t 62))]⟩,
    ⟨(some 64), none, .build [(.slice none 0 0), (.slice none 0 0), (.slice none 0 0)] [(0, 1), (1, 1), (2, 1)] [(0, (.t 61)), (1, (.t 63))]⟩,
    ⟨(some 65), none, .call (.c (.func (.func 298) #[] #[])) [(.t 59), (.t 64)]⟩,
    ⟨(some 66), none, .nilCheck (.t 58)⟩,
    ⟨(some 67), none, .fieldAddr 2 (.t 66)⟩,
    ⟨none, none, .store 1 (.t 67) (.t 65)⟩] (some []))
  (.seq (.ops [⟨(some 6), none, .move (.c (.int .i64 0))⟩,
    ⟨(some 7), none, .move (.c (.bool false))⟩,
    ⟨(some 8), none, .move (.c (.int .i64 0))⟩] (some [6, 7, 8]))
  .ret))
  .skip))
 (.seq (.ops [⟨(some 68), none, .move (.t 0)⟩,
   ⟨(some 69), none, .move (.t 0)⟩,
   ⟨(some 70), none, .nilCheck (.t 69)⟩,
   ⟨(some 71), none, .fieldAddr 2 (.t 70)⟩,
   ⟨(some 72), none, .load false 1 (.t 71)⟩,
   ⟨(some 73), none, .move (.t 1)⟩,
   ⟨(some 74), none, .move (.t 2)⟩,
   ⟨(some 75), none, .call (.c (.func (.func 299) #[] #[])) [(.t 68), (.t 72), (.t 73), (.t 74)]⟩] (some [0]))
 (.seq (.seq (.opsd [(0, 0, ⟨(some 76), none, .move (.t 0)⟩),
   (1, 1, ⟨(some 77), none, .nilCheck (.t 76)⟩),
   (2, 3, ⟨(some 78), none, .fieldAddr 0 (.t 77)⟩),
   (3, 7, ⟨(some 79), none, .load false 1 (.t 78)⟩),
   (4, 0, ⟨(some 80), none, .move (.t 0)⟩),
   (5, 16, ⟨(some 81), none, .nilCheck (.t 80)⟩),
   (6, 48, ⟨(some 82), none, .fieldAddr 2 (.t 81)⟩),
   (7, 112, ⟨(some 83), none, .load false 1 (.t 82)⟩),
   (8, 255, ⟨(some 84), none, .indexAddr 3 (.t 79) (.t 83)⟩),
   (9, 511, ⟨(some 85), none, .call (.c (.func (.func 300) #[] #[])) [(.t 84)]⟩),
   (10, 1023, ⟨(some 86), none, .bin .gtr 3 (.t 85) (.c (.int .i64 4))⟩)] (some [0, 86]))
 (.cond (.t 86)
  (.seq (.ops [⟨(some 87), none, .move (.t 0)⟩,
    ⟨(some 88), none, .nilCheck (.t 87)⟩,
    ⟨(some 89), none, .fieldAddr 2 (.t 88)⟩,
    ⟨(some 90), none, .load false 1 (.t 89)⟩,
    ⟨(some 13), none, .move (.t 90)⟩] (some [0, 13]))
  (.seq (.ops [⟨(some 92), none, .move (.t 0)⟩,
    ⟨(some 93), none, .move (.t 13)⟩,
    ⟨(some 94), none, .call (.c (.func (.func 301) #[] #[])) [(.t 92), (.t 93)]⟩,
    ⟨(some 91), none, .move (.t 94)⟩,
    ⟨(some 95), none, .extract (.t 91) 0⟩,
    ⟨(some 96), none, .extract (.t 91) 1⟩,
    ⟨(some 14), none, .move (.t 95)⟩,
    ⟨(some 15), none, .move (.t 96)⟩] (some [0, 13, 14, 15]))
  (.ops [⟨(some 97), none, .move (.t 0)⟩,
    ⟨(some 98), none, .move (.t 0)⟩,
    ⟨(some 99), none, .move (.t 15)⟩,
    ⟨(some 100), none, .buildSlice [(.string .empty)] 1 1 [(0, (.t 99))]⟩,
    ⟨(some 101), none, .move (.t 13)⟩,
    ⟨(some 102), none, .move (.t 14)⟩,
    ⟨(some 103), none, .buildSlice [(.int .i64 0)] 1 2 [(0, (.t 101)), (1, (.t 102))]⟩,
    ⟨(some 104), none, .build [(.slice none 0 0), (.slice none 0 0), (.slice none 0 0)] [(0, 1), (1, 1), (2, 1)] [(0, (.t 100)), (2, (.t 103))]⟩,
    ⟨(some 105), none, .call (.c (.func (.func 298) #[] #[])) [(.t 98), (.t 104)]⟩,
    ⟨(some 106), none, .nilCheck (.t 97)⟩,
    ⟨(some 107), none, .fieldAddr 2 (.t 106)⟩,
    ⟨none, none, .store 1 (.t 107) (.t 105)⟩] (some []))))
  .skip))
 (.seq (.ops [⟨(some 6), none, .move (.c (.int .i64 0))⟩,
   ⟨(some 7), none, .move (.c (.bool false))⟩,
   ⟨(some 8), none, .move (.c (.int .i64 0))⟩] (some [6, 7, 8]))
 .ret))))))))), [.tmp 6, .tmp 7, .tmp 8]⟩

theorem is199 : FnIs Tryz.prog 199 x199 := ⟨Tryz.f199, _, Tryz.func199, by kernel_rfl, rfl, by kernel_rfl, by decide, by kernel_rfl⟩

/-- slices.Clone[[]cloisonne/api.Version,cloisonne/api.Version] -/
def x200 : XDecl := .code ⟨1, 
 (.seq (.ops [⟨(some 2), none, .move (.c (.slice none 0 0))⟩] (some [0]))
 (.seq (.seq (.ops [⟨(some 3), none, .move (.t 0)⟩,
   ⟨(some 4), none, .isNil .slice false (.t 3)⟩] (some [0, 4]))
 (.cond (.t 4)
  (.seq (.ops [⟨(some 2), none, .move (.c (.slice none 0 0))⟩] (some [2]))
  .ret)
  .skip))
 (.seq (.ops [⟨(some 5), none, .buildSlice [(.int .i64 0), (.bool false), (.bool false), (.string .empty), (.int .u64 0)] 5 0 []⟩,
   ⟨(some 6), none, .move (.t 0)⟩,
   ⟨(some 7), none, .append 5 48 [(.int .i64 0), (.bool false), (.bool false), (.string .empty), (.int .u64 0)] (.t 5) (.t 6)⟩,
   ⟨(some 2), none, .move (.t 7)⟩] (some [2]))
 .ret))), [.tmp 2]⟩

theorem is200 : FnIs Tryz.prog 200 x200 := ⟨Tryz.f200, _, Tryz.func200, by kernel_rfl, rfl, by kernel_rfl, by decide, by kernel_rfl⟩

/-- (*cloisonne/vault.Vault).Log -/
def x201 : XDecl := .code ⟨2, 
 (.seq (.ops [⟨(some 4), none, .move (.c (.pointer none))⟩] (some [0, 1]))
 (.seq (.seq (.ops [⟨(some 5), none, .move (.t 0)⟩,
   ⟨(some 6), none, .move (.t 1)⟩,
   ⟨(some 7), none, .call (.c (.func (.func 302) #[] #[])) [(.t 5), (.t 6)]⟩,
   ⟨(some 8), none, .un .not (.t 7)⟩] (some [0, 1, 8]))
 (.cond (.t 8)
  (.seq (.ops [⟨(some 4), none, .move (.c (.pointer none))⟩] (some [4]))
  .ret)
  .skip))
 (.seq (.ops [⟨(some 9), none, .move (.t 0)⟩,
   ⟨(some 10), none, .nilCheck (.t 9)⟩,
   ⟨(some 11), none, .fieldAddr 7 (.t 10)⟩,
   ⟨(some 12), none, .load false 1 (.t 11)⟩,
   ⟨(some 13), none, .move (.t 1)⟩,
   ⟨(some 14), none, .bin .add 3 (.t 13) (.c (.int .i64 1))⟩,
   ⟨(some 15), none, .indexAddr 1 (.t 12) (.t 14)⟩,
   ⟨(some 16), none, .load false 1 (.t 15)⟩,
   ⟨(some 4), none, .move (.t 16)⟩] (some [4]))
 .ret))), [.tmp 4]⟩

theorem is201 : FnIs Tryz.prog 201 x201 := ⟨Tryz.f201, _, Tryz.func201, by kernel_rfl, rfl, by kernel_rfl, by decide, by kernel_rfl⟩

/-- (*cloisonne/job.Job).latch -/
def x202 : XDecl := .code ⟨1, 
 (.seq (.ops [⟨(some 2), none, .move (.c (.int .i64 0))⟩,
   ⟨(some 3), none, .move (.c (.int .i64 0))⟩] (some [0]))
 (.seq (.seq (.opsd [(0, 0, ⟨(some 4), none, .move (.t 0)⟩),
   (1, 1, ⟨(some 5), none, .nilCheck (.t 4)⟩),
   (2, 3, ⟨(some 6), none, .fieldAddr 0 (.t 5)⟩),
   (3, 7, ⟨(some 7), none, .load false 1 (.t 6)⟩),
   (4, 0, ⟨(some 8), none, .move (.t 0)⟩),
   (5, 16, ⟨(some 9), none, .nilCheck (.t 8)⟩),
   (6, 48, ⟨(some 10), none, .fieldAddr 2 (.t 9)⟩),
   (7, 112, ⟨(some 11), none, .load false 1 (.t 10)⟩),
   (8, 0, ⟨(some 12), none, .move (.t 0)⟩),
   (9, 256, ⟨(some 13), none, .nilCheck (.t 12)⟩),
   (10, 768, ⟨(some 14), none, .fieldAddr 1 (.t 13)⟩),
   (11, 1792, ⟨(some 15), none, .load false 1 (.t 14)⟩),
   (12, 4095, ⟨(some 16), none, .call (.c (.func (.func 303) #[] #[])) [(.t 7), (.t 11), (.t 15)]⟩),
   (13, 8191, ⟨(some 17), none, .un .not (.t 16)⟩)] (some [0, 17]))
 (.cond (.t 17)
  (.seq (.ops [⟨(some 2), none, .move (.c (.int .i64 3))⟩,
    ⟨(some 3), none, .move (.c (.int .i64 0))⟩] (some [2, 3]))
  .ret)
  .skip))
 (.seq (.ops [⟨(some 18), none, .move (.t 0)⟩,
   ⟨(some 19), none, .nilCheck (.t 18)⟩,
   ⟨(some 20), none, .fieldAddr 4 (.t 19)⟩,
   ⟨none, none, .store 1 (.t 20) (.c (.int .i64 1))⟩] (some []))
 (.seq (.ops [⟨(some 2), none, .move (.c (.int .i64 1))⟩,
   ⟨(some 3), none, .move (.c (.int .i64 0))⟩] (some [2, 3]))
 .ret)))), [.tmp 2, .tmp 3]⟩

theorem is202 : FnIs Tryz.prog 202 x202 := ⟨Tryz.f202, _, Tryz.func202, by kernel_rfl, rfl, by kernel_rfl, by decide, by kernel_rfl⟩

/-- (*cloisonne/job.Job).check -/
def x203 : XDecl := .code ⟨1, 
 (.seq (.ops [⟨(some 2), none, .move (.c (.int .i64 0))⟩,
   ⟨(some 3), none, .move (.c (.int .i64 0))⟩] (some [0]))
 (.seq (.opsd [(0, 0, ⟨(some 7), none, .move (.t 0)⟩),
   (1, 1, ⟨(some 8), none, .nilCheck (.t 7)⟩),
   (2, 3, ⟨(some 9), none, .fieldAddr 3 (.t 8)⟩),
   (3, 7, ⟨(some 10), none, .load false 1 (.t 9)⟩),
   (4, 0, ⟨(some 11), none, .move (.t 0)⟩),
   (5, 16, ⟨(some 12), none, .nilCheck (.t 11)⟩),
   (6, 48, ⟨(some 13), none, .fieldAddr 0 (.t 12)⟩),
   (7, 112, ⟨(some 14), none, .load false 1 (.t 13)⟩),
   (8, 15, ⟨(some 15), none, .nilCheck (.t 10)⟩),
   (9, 271, ⟨(some 16), none, .move (.t 10)⟩),
   (10, 1023, ⟨(some 17), none, .invoke [(309, 563), (483, 567), (484, 575)] (.t 16) [(.t 14)]⟩),
   (11, 2047, ⟨(some 6), none, .move (.t 17)⟩),
   (12, 4095, ⟨(some 18), none, .extract (.t 6) 0⟩),
   (13, 4095, ⟨(some 19), none, .extract (.t 6) 1⟩),
   (14, 8191, ⟨(some 4), none, .move (.t 18)⟩),
   (15, 32767, ⟨(some 5), none, .move (.t 19)⟩)] (some [0, 4, 5]))
 (.seq (.seq (.ops [⟨(some 20), none, .move (.t 5)⟩,
   ⟨(some 21), none, .bin .neq 34 (.t 20) (.c (.int .i64 0))⟩] (some [0, 4, 5, 21]))
 (.cond (.t 21)
  (.seq (.ops [⟨(some 22), none, .move (.t 0)⟩,
    ⟨(some 23), none, .move (.t 5)⟩,
    ⟨(some 24), none, .call (.c (.func (.func 304) #[] #[])) [(.t 22), (.c (.int .u64 0)), (.t 23)]⟩,
    ⟨(some 25), none, .extract (.t 24) 0⟩,
    ⟨(some 26), none, .extract (.t 24) 1⟩,
    ⟨(some 2), none, .move (.t 25)⟩,
    ⟨(some 3), none, .move (.t 26)⟩] (some [2, 3]))
  .ret)
  .skip))
 (.seq (.ops [⟨(some 27), none, .move (.t 0)⟩,
   ⟨(some 28), none, .move (.t 0)⟩,
   ⟨(some 29), none, .move (.t 4)⟩,
   ⟨(some 30), none, .nilCheck (.t 27)⟩,
   ⟨(some 31), none, .fieldAddr 5 (.t 30)⟩,
   ⟨none, none, .store 1 (.t 31) (.t 29)⟩,
   ⟨(some 32), none, .nilCheck (.t 28)⟩,
   ⟨(some 33), none, .fieldAddr 4 (.t 32)⟩,
   ⟨none, none, .store 1 (.t 33) (.c (.int .i64 2))⟩] (some []))
 (.seq (.ops [⟨(some 2), none, .move (.c (.int .i64 1))⟩,
   ⟨(some 3), none, .move (.c (.int .i64 0))⟩] (some [2, 3]))
 .ret))))), [.tmp 2, .tmp 3]⟩

theorem is203 : FnIs Tryz.prog 203 x203 := ⟨Tryz.f203, _, Tryz.func203, by kernel_rfl, rfl, by kernel_rfl, by decide, by kernel_rfl⟩

/-- (*cloisonne/job.Job).write -/
def x204 : XDecl := .code ⟨1, 
 (.seq (.ops [⟨(some 2), none, .move (.c (.int .i64 0))⟩,
   ⟨(some 3), none, .move (.c (.int .i64 0))⟩] (some [0]))
 (.seq (.ops [⟨(some 7), none, .move (.t 0)⟩,
   ⟨(some 8), none, .nilCheck (.t 7)⟩,
   ⟨(some 9), none, .fieldAddr 5 (.t 8)⟩,
   ⟨(some 10), none, .load false 1 (.t 9)⟩,
   ⟨(some 11), none, .call (.c (.func (.func 230) #[] #[])) [(.t 10)]⟩,
   ⟨(some 6), none, .move (.t 11)⟩,
   ⟨(some 12), none, .extract (.t 6) 0⟩,
   ⟨(some 13), none, .extract (.t 6) 1⟩,
   ⟨(some 4), none, .move (.t 12)⟩,
   ⟨(some 5), none, .move (.t 13)⟩] (some [0, 4, 5]))
 (.seq (.seq (.ops [⟨(some 14), none, .move (.t 5)⟩,
   ⟨(some 15), none, .bin .neq 34 (.t 14) (.c (.int .i64 0))⟩,
   ⟨(some 16), none, .move (.t 15)⟩,
   ⟨(some 17), (some (16, false)), .move (.t 4)⟩,
   ⟨(some 18), (some (16, false)), .bin .neq 3 (.t 17) (.c (.int .i64 2))⟩,
   ⟨(some 19), none, .pick (.t 16) (.c (.bool true)) (.t 18)⟩] (some [0, 4, 5, 19]))
 (.cond (.t 19)
  (.seq (.ops [⟨(some 20), none, .move (.t 4)⟩,
    ⟨(some 21), none, .move (.t 5)⟩,
    ⟨(some 2), none, .move (.t 20)⟩,
    ⟨(some 3), none, .move (.t 21)⟩] (some [2, 3]))
  .ret)
  .skip))
 (.seq (.opsd [(0, 0, ⟨(some 22), none, .move (.t 0)⟩),
   (1, 0, ⟨(some 23), none, .move (.t 0)⟩),
   (2, 2, ⟨(some 24), none, .nilCheck (.t 23)⟩),
   (3, 6, ⟨(some 25), none, .fieldAddr 3 (.t 24)⟩),
   (4, 14, ⟨(some 26), none, .load false 1 (.t 25)⟩),
   (5, 0, ⟨(some 27), none, .move (.t 0)⟩),
   (6, 32, ⟨(some 28), none, .nilCheck (.t 27)⟩),
   (7, 96, ⟨(some 29), none, .fieldAddr 0 (.t 28)⟩),
   (8, 224, ⟨(some 30), none, .load false 1 (.t 29)⟩),
   (9, 30, ⟨(some 31), none, .nilCheck (.t 26)⟩),
   (10, 542, ⟨(some 32), none, .move (.t 26)⟩),
   (11, 2046, ⟨(some 33), none, .invoke [(309, 564), (483, 568), (484, 576)] (.t 32) [(.t 30)]⟩),
   (12, 4094, ⟨(some 34), none, .extract (.t 33) 0⟩),
   (13, 4094, ⟨(some 35), none, .extract (.t 33) 1⟩),
   (14, 16383, ⟨(some 36), none, .call (.c (.func (.func 304) #[] #[])) [(.t 22), (.t 34), (.t 35)]⟩),
   (15, 32767, ⟨(some 37), none, .extract (.t 36) 0⟩),
   (16, 32767, ⟨(some 38), none, .extract (.t 36) 1⟩),
   (17, 131071, ⟨(some 2), none, .move (.t 37)⟩),
   (18, 262143, ⟨(some 3), none, .move (.t 38)⟩)] (some [2, 3]))
 .ret)))), [.tmp 2, .tmp 3]⟩

theorem is204 : FnIs Tryz.prog 204 x204 := ⟨Tryz.f204, _, Tryz.func204, by kernel_rfl, rfl, by kernel_rfl, by decide, by kernel_rfl⟩

/-- (*cloisonne/extent.World).may -/
def x205 : XDecl := .code ⟨3, 
 (.seq (.ops [⟨(some 6), none, .move (.c (.int .i64 0))⟩] (some [0, 1, 2]))
 (.seq (.block 0
  (.seq (.ops [⟨(some 8), none, .move (.t 0)⟩,
    ⟨(some 9), none, .isNil .ptr false (.t 8)⟩,
    ⟨(some 7), none, .move (.t 9)⟩] (some [0, 1, 2, 7]))
  (.cond (.t 7)
   (.seq (.ops [⟨(some 6), none, .move (.c (.int .i64 2))⟩] (some [6]))
   .ret)
   (.seq (.ops [⟨(some 11), none, .move (.t 0)⟩,
     ⟨(some 12), none, .move (.t 1)⟩,
     ⟨(some 13), none, .call (.c (.func (.func 305) #[] #[])) [(.t 11), (.t 12)]⟩,
     ⟨(some 14), none, .un .not (.t 13)⟩,
     ⟨(some 15), none, .move (.t 14)⟩,
     ⟨(some 16), (some (15, false)), .move (.t 2)⟩,
     ⟨(some 17), (some (15, false)), .bin .lss 3 (.t 16) (.c (.int .i64 0))⟩,
     ⟨(some 18), none, .pick (.t 15) (.c (.bool true)) (.t 17)⟩,
     ⟨(some 19), none, .move (.t 18)⟩,
     ⟨(some 20), (some (19, false)), .move (.t 2)⟩,
     ⟨(some 21), (some (19, false)), .move (.t 0)⟩,
     ⟨(some 22), (some (19, false)), .nilCheck (.t 21)⟩,
     ⟨(some 23), (some (19, false)), .fieldAddr 1 (.t 22)⟩,
     ⟨(some 24), (some (19, false)), .load false 1 (.t 23)⟩,
     ⟨(some 25), (some (19, false)), .bin .geq 3 (.t 20) (.t 24)⟩,
     ⟨(some 26), none, .pick (.t 19) (.c (.bool true)) (.t 25)⟩,
     ⟨(some 10), none, .move (.t 26)⟩] (some [10]))
   (.cond (.t 10)
    (.seq (.ops [⟨(some 6), none, .move (.c (.int .i64 1))⟩] (some [6]))
    .ret)
    .skip)))))
 (.seq (.ops [⟨(some 6), none, .move (.c (.int .i64 0))⟩] (some [6]))
 .ret))), [.tmp 6]⟩

theorem is205 : FnIs Tryz.prog 205 x205 := ⟨Tryz.f205, _, Tryz.func205, by kernel_rfl, rfl, by kernel_rfl, by decide, by kernel_rfl⟩

/-- cmp.Or[int] -/
def x218 : XDecl := .code ⟨1, 
 (.seq (.ops [⟨(some 2), none, .move (.c (.int .i64 0))⟩] (some [0]))
 (.seq (.ops [⟨(some 3), none, .move (.c (.int .i64 0))⟩] (some [0, 3]))
 (.seq (.seq (.ops [⟨(some 6), none, .move (.t 0)⟩,
   ⟨(some 7), none, .len (.t 6)⟩,
   ⟨(some 8), none, .move (.c (.int .i64 0))⟩] (some [3, 6, 7, 8]))
 (.block 0
  (.loop
   (.seq (.ops [⟨(some 9), none, .bin .lss 3 (.t 8) (.t 7)⟩] (some [3, 6, 7, 8, 9]))
   (.seq (.cond (.t 9)
    .skip
    (.exit 0))
   (.seq (.block 1
    (.seq (.ops [⟨(some 10), none, .indexAddr 1 (.t 6) (.t 8)⟩,
      ⟨(some 11), none, .load false 1 (.t 10)⟩,
      ⟨(some 5), none, .move (.t 11)⟩] (some [3, 5, 6, 7, 8]))
    (.seq (.ops [⟨(some 12), none, .move (.t 5)⟩,
      ⟨(some 13), none, .move (.t 3)⟩,
      ⟨(some 14), none, .bin .neq 3 (.t 12) (.t 13)⟩] (some [3, 5, 6, 7, 8, 14]))
    (.cond (.t 14)
     (.seq (.ops [⟨(some 15), none, .move (.t 5)⟩,
       ⟨(some 2), none, .move (.t 15)⟩] (some [2]))
     .ret)
     .skip))))
   (.ops [⟨(some 16), none, .bin .add 3 (.t 8) (.c (.int .i64 1))⟩,
     ⟨(some 8), none, .move (.t 16)⟩] (some [3, 6, 7, 8]))))))))
 (.seq (.ops [⟨(some 17), none, .move (.t 3)⟩,
   ⟨(some 2), none, .move (.t 17)⟩] (some [2]))
 .ret)))), [.tmp 2]⟩

theorem is218 : FnIs Tryz.prog 218 x218 := ⟨Tryz.f218, _, Tryz.func218, by kernel_rfl, rfl, by kernel_rfl, by decide, by kernel_rfl⟩

/-- slices.Compare[[]uint64,uint64] -/
def x219 : XDecl := .code ⟨2, 
 (.seq (.ops [⟨(some 4), none, .move (.c (.int .i64 0))⟩] (some [0, 1]))
 (.seq (.seq (.ops [⟨(some 9), none, .move (.t 0)⟩,
   ⟨(some 10), none, .len (.t 9)⟩,
   ⟨(some 11), none, .move (.c (.int .i64 0))⟩] (some [0, 1, 9, 10, 11]))
 (.block 0
  (.loop
   (.seq (.ops [⟨(some 12), none, .bin .lss 3 (.t 11) (.t 10)⟩] (some [0, 1, 9, 10, 11, 12]))
   (.seq (.cond (.t 12)
    .skip
    (.exit 0))
   (.seq (.block 1
    (.seq (.ops [⟨(some 13), none, .move (.t 11)⟩,
      ⟨(some 14), none, .indexAddr 1 (.t 9) (.t 11)⟩,
      ⟨(some 15), none, .load false 1 (.t 14)⟩,
      ⟨(some 5), none, .move (.t 13)⟩,
      ⟨(some 6), none, .move (.t 15)⟩] (some [0, 1, 5, 6, 9, 10, 11]))
    (.seq (.seq (.ops [⟨(some 16), none, .move (.t 5)⟩,
      ⟨(some 17), none, .move (.t 1)⟩,
      ⟨(some 18), none, .len (.t 17)⟩,
      ⟨(some 19), none, .bin .geq 3 (.t 16) (.t 18)⟩] (some [0, 1, 5, 6, 9, 10, 11, 19]))
    (.cond (.t 19)
     (.seq (.ops [⟨(some 4), none, .move (.c (.int .i64 1))⟩] (some [4]))
     .ret)
     .skip))
    (.seq (.ops [⟨(some 20), none, .move (.t 1)⟩,
      ⟨(some 21), none, .move (.t 5)⟩,
      ⟨(some 22), none, .indexAddr 1 (.t 20) (.t 21)⟩,
      ⟨(some 23), none, .load false 1 (.t 22)⟩,
      ⟨(some 7), none, .move (.t 23)⟩] (some [0, 1, 6, 7, 9, 10, 11]))
    (.seq (.ops [⟨(some 24), none, .move (.t 6)⟩,
      ⟨(some 25), none, .move (.t 7)⟩,
      ⟨(some 26), none, .call (.c (.func (.func 316) #[] #[])) [(.t 24), (.t 25)]⟩,
      ⟨(some 8), none, .move (.t 26)⟩] (some [0, 1, 8, 9, 10, 11]))
    (.seq (.ops [⟨(some 27), none, .move (.t 8)⟩,
      ⟨(some 28), none, .bin .neq 3 (.t 27) (.c (.int .i64 0))⟩] (some [0, 1, 8, 9, 10, 11, 28]))
    (.cond (.t 28)
     (.seq (.ops [⟨(some 29), none, .move (.t 8)⟩,
       ⟨(some 4), none, .move (.t 29)⟩] (some [4]))
     .ret)
     .skip)))))))
   (.ops [⟨(some 30), none, .bin .add 3 (.t 11) (.c (.int .i64 1))⟩,
     ⟨(some 11), none, .move (.t 30)⟩] (some [0, 1, 9, 10, 11]))))))))
 (.seq (.seq (.ops [⟨(some 31), none, .move (.t 0)⟩,
   ⟨(some 32), none, .len (.t 31)⟩,
   ⟨(some 33), none, .move (.t 1)⟩,
   ⟨(some 34), none, .len (.t 33)⟩,
   ⟨(some 35), none, .bin .lss 3 (.t 32) (.t 34)⟩] (some [35]))
 (.cond (.t 35)
  (.seq (.ops [⟨(some 4), none, .move (.c (.int .i64 (-1)))⟩] (some [4]))
  .ret)
  .skip))
 (.seq (.ops [⟨(some 4), none, .move (.c (.int .i64 0))⟩] (some [4]))
 .ret)))), [.tmp 4]⟩

theorem is219 : FnIs Tryz.prog 219 x219 := ⟨Tryz.f219, _, Tryz.func219, by kernel_rfl, rfl, by kernel_rfl, by decide, by kernel_rfl⟩

/-- cloisonne/room.within -/
def x220 : XDecl := .code ⟨3, 
 (.seq (.ops [⟨(some 6), none, .move (.c (.bool false))⟩] (some [0, 1, 2]))
 (.seq (.ops [⟨(some 7), none, .move (.t 0)⟩,
   ⟨(some 8), none, .move (.t 1)⟩,
   ⟨(some 9), none, .bin .geq 3 (.t 7) (.t 8)⟩,
   ⟨(some 10), none, .move (.t 9)⟩,
   ⟨(some 11), (some (10, true)), .move (.t 0)⟩,
   ⟨(some 12), (some (10, true)), .move (.t 2)⟩,
   ⟨(some 13), (some (10, true)), .bin .leq 3 (.t 11) (.t 12)⟩,
   ⟨(some 14), none, .pick (.t 10) (.t 13) (.c (.bool false))⟩,
   ⟨(some 6), none, .move (.t 14)⟩] (some [6]))
 .ret)), [.tmp 6]⟩

theorem is220 : FnIs Tryz.prog 220 x220 := ⟨Tryz.f220, _, Tryz.func220, by kernel_rfl, rfl, by kernel_rfl, by decide, by kernel_rfl⟩

/-- slices.IndexFunc[[]cloisonne/api.Room,cloisonne/api.Room] -/
def x221 : XDecl := .code ⟨2, 
 (.seq (.ops [⟨(some 4), none, .move (.c (.int .i64 0))⟩] (some [0, 1]))
 (.seq (.seq (.ops [⟨(some 6), none, .move (.t 0)⟩,
   ⟨(some 7), none, .len (.t 6)⟩,
   ⟨(some 8), none, .move (.c (.int .i64 0))⟩] (some [0, 1, 7, 8]))
 (.block 0
  (.loop
   (.seq (.ops [⟨(some 9), none, .bin .lss 3 (.t 8) (.t 7)⟩] (some [0, 1, 7, 8, 9]))
   (.seq (.cond (.t 9)
    .skip
    (.exit 0))
   (.seq (.block 1
    (.seq (.ops [⟨(some 10), none, .move (.t 8)⟩,
      ⟨(some 5), none, .move (.t 10)⟩] (some [0, 1, 5, 7, 8]))
    (.seq (.ops [⟨(some 11), none, .move (.t 1)⟩,
      ⟨(some 12), none, .move (.t 0)⟩,
      ⟨(some 13), none, .move (.t 5)⟩,
      ⟨(some 14), none, .indexAddr 4 (.t 12) (.t 13)⟩,
      ⟨(some 15), none, .load true 4 (.t 14)⟩,
      ⟨(some 16), none, .call (.t 11) [(.t 15)]⟩] (some [0, 1, 5, 7, 8, 16]))
    (.cond (.t 16)
     (.seq (.ops [⟨(some 17), none, .move (.t 5)⟩,
       ⟨(some 4), none, .move (.t 17)⟩] (some [4]))
     .ret)
     .skip))))
   (.ops [⟨(some 18), none, .bin .add 3 (.t 8) (.c (.int .i64 1))⟩,
     ⟨(some 8), none, .move (.t 18)⟩] (some [0, 1, 7, 8]))))))))
 (.seq (.ops [⟨(some 4), none, .move (.c (.int .i64 (-1)))⟩] (some [4]))
 .ret))), [.tmp 4]⟩

theorem is221 : FnIs Tryz.prog 221 x221 := ⟨Tryz.f221, _, Tryz.func221, by kernel_rfl, rfl, by kernel_rfl, by decide, by kernel_rfl⟩

/-- cloisonne/seglog.look -/
def x222 : XDecl := .code ⟨2, 
 (.seq (.ops [⟨(some 4), none, .alloc [(.slice none 0 0), (.slice none 0 0), (.slice none 0 0), (.int .i64 0)]⟩] (some [0, 1, 4]))
 (.seq (.ops [⟨(some 5), none, .alloc [(.slice none 0 0), (.slice none 0 0), (.slice none 0 0), (.int .i64 0)]⟩] (some [0, 1, 4, 5]))
 (.seq (.seq (.ops [⟨(some 12), none, .move (.t 0)⟩,
   ⟨(some 13), none, .call (.c (.func (.func 94) #[] #[])) [(.t 12)]⟩,
   ⟨(some 14), none, .move (.c (.int .i64 0))⟩] (some [0, 1, 4, 5, 13, 14]))
 (.block 0
  (.loop
   (.seq (.ops [⟨(some 15), none, .bin .lss 3 (.t 14) (.t 13)⟩] (some [0, 1, 4, 5, 13, 14, 15]))
   (.seq (.cond (.t 15)
    .skip
    (.exit 0))
   (.seq (.block 1
    (.seq (.ops [⟨(some 16), none, .move (.t 14)⟩,
      ⟨(some 6), none, .move (.t 16)⟩] (some [0, 1, 4, 5, 6, 13, 14]))
    (.seq (.ops [⟨(some 18), none, .move (.t 0)⟩,
      ⟨(some 19), none, .move (.t 1)⟩,
      ⟨(some 20), none, .move (.t 6)⟩,
      ⟨(some 21), none, .call (.c (.func (.func 317) #[] #[])) [(.t 18), (.t 19), (.t 20)]⟩,
      ⟨(some 17), none, .move (.t 21)⟩,
      ⟨(some 22), none, .extract (.t 17) 0⟩,
      ⟨(some 23), none, .extract (.t 17) 1⟩,
      ⟨(some 7), none, .move (.t 22)⟩,
      ⟨(some 8), none, .move (.t 23)⟩] (some [0, 1, 4, 5, 7, 13, 14]))
    (.seq (.ops [⟨(some 25), none, .move (.t 7)⟩,
      ⟨(some 26), none, .call (.c (.func (.func 318) #[] #[])) [(.t 25)]⟩,
      ⟨(some 24), none, .move (.t 26)⟩,
      ⟨(some 27), none, .extract (.t 24) 0⟩,
      ⟨(some 28), none, .extract (.t 24) 1⟩,
      ⟨(some 29), none, .extract (.t 24) 2⟩,
      ⟨(some 9), none, .alloc [(.int .i64 0), (.int .i64 0), (.int .i64 0), (.int .i64 0), (.int .i64 0)]⟩,
      ⟨none, none, .store 5 (.t 9) (.t 27)⟩,
      ⟨(some 10), none, .move (.t 28)⟩,
      ⟨(some 11), none, .move (.t 29)⟩] (some [0, 1, 4, 5, 9, 10, 11, 13, 14]))
    (.seq (.ops [⟨(some 30), none, .fieldAddr 0 (.t 5)⟩,
      ⟨(some 31), none, .load false 1 (.t 30)⟩,
      ⟨(some 32), none, .load true 5 (.t 9)⟩,
      ⟨(some 33), none, .buildSlice [(.int .i64 0), (.int .i64 0), (.int .i64 0), (.int .i64 0), (.int .i64 0)] 5 1 [(0, (.t 32))]⟩,
      ⟨(some 34), none, .append 5 40 [(.int .i64 0), (.int .i64 0), (.int .i64 0), (.int .i64 0), (.int .i64 0)] (.t 31) (.t 33)⟩,
      ⟨(some 35), none, .fieldAddr 0 (.t 5)⟩,
      ⟨none, none, .store 1 (.t 35) (.t 34)⟩] (some [0, 1, 4, 5, 9, 10, 11, 13, 14]))
    (.seq (.ops [⟨(some 36), none, .fieldAddr 1 (.t 5)⟩,
      ⟨(some 37), none, .load false 1 (.t 36)⟩,
      ⟨(some 38), none, .move (.t 10)⟩,
      ⟨(some 39), none, .buildSlice [(.string .empty)] 1 1 [(0, (.t 38))]⟩,
      ⟨(some 40), none, .append 1 16 [(.string .empty)] (.t 37) (.t 39)⟩,
      ⟨(some 41), none, .fieldAddr 1 (.t 5)⟩,
      ⟨none, none, .store 1 (.t 41) (.t 40)⟩] (some [0, 1, 4, 5, 9, 11, 13, 14]))
    (.seq (.ops [⟨(some 42), none, .fieldAddr 2 (.t 5)⟩,
      ⟨(some 43), none, .load false 1 (.t 42)⟩,
      ⟨(some 44), none, .move (.t 11)⟩,
      ⟨(some 45), none, .bin .eql 34 (.t 44) (.c (.int .i64 0))⟩,
      ⟨(some 46), none, .buildSlice [(.bool false)] 1 1 [(0, (.t 45))]⟩,
      ⟨(some 47), none, .append 1 1 [(.bool false)] (.t 43) (.t 46)⟩,
      ⟨(some 48), none, .fieldAddr 2 (.t 5)⟩,
      ⟨none, none, .store 1 (.t 48) (.t 47)⟩] (some [0, 1, 4, 5, 9, 13, 14]))
    (.ops [⟨(some 49), none, .fieldAddr 3 (.t 5)⟩,
      ⟨(some 50), none, .load false 1 (.t 49)⟩,
      ⟨(some 51), none, .fieldAddr 2 (.t 9)⟩,
      ⟨(some 52), none, .load false 1 (.t 51)⟩,
      ⟨(some 53), none, .calcB .max [3, 3] 3 [(.t 50), (.t 52)]⟩,
      ⟨(some 54), none, .fieldAddr 3 (.t 5)⟩,
      ⟨none, none, .store 1 (.t 54) (.t 53)⟩] (some [0, 1, 4, 5, 13, 14])))))))))
   (.ops [⟨(some 55), none, .bin .add 3 (.t 14) (.c (.int .i64 1))⟩,
     ⟨(some 14), none, .move (.t 55)⟩] (some [0, 1, 4, 5, 13, 14]))))))))
 (.seq (.ops [⟨(some 56), none, .load true 4 (.t 5)⟩,
   ⟨none, none, .store 4 (.t 4) (.t 56)⟩] (some [4]))
 .ret)))), [.cell true 4 4]⟩

theorem is222 : FnIs Tryz.prog 222 x222 := ⟨Tryz.f222, _, Tryz.func222, by kernel_rfl, rfl, by kernel_rfl, by decide, by kernel_rfl⟩

/-- cloisonne/record.tell -/
def x225 : XDecl := .code ⟨2, 
 (.seq (.ops [⟨(some 4), none, .move (.c (.string .empty))⟩] (some [0, 1]))
 (.seq (.ops [⟨(some 8), none, .move (.t 0)⟩,
   ⟨(some 9), none, .move (.t 1)⟩,
   ⟨(some 10), none, .call (.c (.func (.func 181) #[] #[])) [(.t 8), (.t 9)]⟩,
   ⟨(some 7), none, .move (.t 10)⟩,
   ⟨(some 11), none, .extract (.t 7) 0⟩,
   ⟨(some 12), none, .extract (.t 7) 1⟩,
   ⟨(some 5), none, .move (.t 11)⟩,
   ⟨(some 6), none, .move (.t 12)⟩] (some [5, 6]))
 (.seq (.ops [⟨(some 13), none, .move (.t 6)⟩,
   ⟨(some 14), none, .bin .eql 34 (.t 13) (.c (.int .i64 0))⟩,
   ⟨(some 15), none, .call (.c (.func (.func 236) #[] #[])) [(.t 14)]⟩] (some [5]))
 (.seq (.ops [⟨(some 16), none, .move (.t 5)⟩,
   ⟨(some 4), none, .move (.t 16)⟩] (some [4]))
 .ret)))), [.tmp 4]⟩

theorem is225 : FnIs Tryz.prog 225 x225 := ⟨Tryz.f225, _, Tryz.func225, by kernel_rfl, rfl, by kernel_rfl, by decide, by kernel_rfl⟩

/-- cloisonne/record.number -/
def x226 : XDecl := .code ⟨1, 
 (.seq (.ops [⟨(some 2), none, .alloc [(.int .u64 0), (.string .empty), (.slice none 0 0), (.slice none 0 0)]⟩] (some [0, 2]))
 (.seq (.ops [⟨(some 3), none, .move (.t 0)⟩,
   ⟨(some 4), none, .conv 3 23 (.t 3)⟩,
   ⟨(some 5), none, .build [(.int .u64 0), (.string .empty), (.slice none 0 0), (.slice none 0 0)] [(0, 1), (1, 1), (2, 1), (3, 1)] [(0, (.t 4))]⟩,
   ⟨none, none, .store 4 (.t 2) (.t 5)⟩] (some [2]))
 .ret)), [.cell true 4 2]⟩

theorem is226 : FnIs Tryz.prog 226 x226 := ⟨Tryz.f226, _, Tryz.func226, by kernel_rfl, rfl, by kernel_rfl, by decide, by kernel_rfl⟩

/-- (*cloisonne/caps.Table).Tags -/
def x227 : XDecl := .code ⟨1, 
 (.seq (.ops [⟨(some 2), none, .move (.c (.int .i64 0))⟩] (some [0]))
 (.seq (.seq (.ops [⟨(some 3), none, .move (.t 0)⟩,
   ⟨(some 4), none, .isNil .ptr false (.t 3)⟩] (some [0, 4]))
 (.cond (.t 4)
  (.seq (.ops [⟨(some 2), none, .move (.c (.int .i64 0))⟩] (some [2]))
  .ret)
  .skip))
 (.seq (.ops [⟨(some 5), none, .move (.t 0)⟩,
   ⟨(some 6), none, .nilCheck (.t 5)⟩,
   ⟨(some 7), none, .fieldAddr 0 (.t 6)⟩,
   ⟨(some 8), none, .load false 1 (.t 7)⟩,
   ⟨(some 2), none, .move (.t 8)⟩] (some [2]))
 .ret))), [.tmp 2]⟩

theorem is227 : FnIs Tryz.prog 227 x227 := ⟨Tryz.f227, _, Tryz.func227, by kernel_rfl, rfl, by kernel_rfl, by decide, by kernel_rfl⟩

/-- (*cloisonne/caps.Table).Masks -/
def x228 : XDecl := .code ⟨1, 
 (.seq (.ops [⟨(some 2), none, .move (.c (.slice none 0 0))⟩,
   ⟨(some 3), none, .move (.c (.slice none 0 0))⟩] (some [0]))
 (.seq (.seq (.ops [⟨(some 8), none, .move (.t 0)⟩,
   ⟨(some 9), none, .isNil .ptr false (.t 8)⟩] (some [0, 9]))
 (.cond (.t 9)
  (.seq (.ops [⟨(some 2), none, .move (.c (.slice none 0 0))⟩,
    ⟨(some 3), none, .move (.c (.slice none 0 0))⟩] (some [2, 3]))
  .ret)
  .skip))
 (.seq (.ops [⟨(some 4), none, .move (.c (.slice none 0 0))⟩,
   ⟨(some 5), none, .move (.c (.slice none 0 0))⟩] (some [0, 4, 5]))
 (.seq (.seq (.ops [⟨(some 10), none, .move (.t 0)⟩,
   ⟨(some 11), none, .nilCheck (.t 10)⟩,
   ⟨(some 12), none, .fieldAddr 1 (.t 11)⟩,
   ⟨(some 13), none, .load false 1 (.t 12)⟩,
   ⟨(some 14), none, .len (.t 13)⟩,
   ⟨(some 15), none, .move (.c (.int .i64 0))⟩] (some [4, 5, 13, 14, 15]))
 (.block 0
  (.loop
   (.seq (.ops [⟨(some 16), none, .bin .lss 3 (.t 15) (.t 14)⟩] (some [4, 5, 13, 14, 15, 16]))
   (.seq (.cond (.t 16)
    .skip
    (.exit 0))
   (.seq (.block 1
    (.seq (.ops [⟨(some 17), none, .indexAddr 2 (.t 13) (.t 15)⟩,
      ⟨(some 18), none, .load true 2 (.t 17)⟩,
      ⟨(some 7), none, .alloc [(.int .u64 0), (.int .u64 0)]⟩,
      ⟨none, none, .store 2 (.t 7) (.t 18)⟩] (some [4, 5, 7, 13, 14, 15]))
    (.seq (.ops [⟨(some 19), none, .move (.t 4)⟩,
      ⟨(some 20), none, .fieldAddr 0 (.t 7)⟩,
      ⟨(some 21), none, .load false 1 (.t 20)⟩,
      ⟨(some 22), none, .buildSlice [(.int .u64 0)] 1 1 [(0, (.t 21))]⟩,
      ⟨(some 23), none, .append 1 8 [(.int .u64 0)] (.t 19) (.t 22)⟩,
      ⟨(some 4), none, .move (.t 23)⟩] (some [4, 5, 7, 13, 14, 15]))
    (.ops [⟨(some 24), none, .move (.t 5)⟩,
      ⟨(some 25), none, .fieldAddr 1 (.t 7)⟩,
      ⟨(some 26), none, .load false 1 (.t 25)⟩,
      ⟨(some 27), none, .buildSlice [(.int .u64 0)] 1 1 [(0, (.t 26))]⟩,
      ⟨(some 28), none, .append 1 8 [(.int .u64 0)] (.t 24) (.t 27)⟩,
      ⟨(some 5), none, .move (.t 28)⟩] (some [4, 5, 13, 14, 15])))))
   (.ops [⟨(some 29), none, .bin .add 3 (.t 15) (.c (.int .i64 1))⟩,
     ⟨(some 15), none, .move (.t 29)⟩] (some [4, 5, 13, 14, 15]))))))))
 (.seq (.ops [⟨(some 30), none, .move (.t 4)⟩,
   ⟨(some 31), none, .move (.t 5)⟩,
   ⟨(some 2), none, .move (.t 30)⟩,
   ⟨(some 3), none, .move (.t 31)⟩] (some [2, 3]))
 .ret))))), [.tmp 2, .tmp 3]⟩

theorem is228 : FnIs Tryz.prog 228 x228 := ⟨Tryz.f228, _, Tryz.func228, by kernel_rfl, rfl, by kernel_rfl, by decide, by kernel_rfl⟩

/-- (*cloisonne/seglog.Log).Base -/
def x229 : XDecl := .code ⟨2, 
 (.seq (.ops [⟨(some 4), none, .move (.c (.pointer none))⟩,
   ⟨(some 5), none, .move (.c (.int .i64 0))⟩] (some [0, 1]))
 (.seq (.block 0
  (.seq (.ops [⟨(some 7), none, .move (.t 0)⟩,
    ⟨(some 8), none, .isNil .ptr false (.t 7)⟩,
    ⟨(some 6), none, .move (.t 8)⟩] (some [0, 1, 6]))
  (.cond (.t 6)
   (.seq (.ops [⟨(some 4), none, .move (.c (.pointer none))⟩,
     ⟨(some 5), none, .move (.c (.int .i64 2))⟩] (some [4, 5]))
   .ret)
   (.seq (.ops [⟨(some 10), none, .move (.t 0)⟩,
     ⟨(some 11), none, .call (.c (.func (.func 320) #[] #[])) [(.t 10)]⟩,
     ⟨(some 9), none, .move (.t 11)⟩] (some [0, 1, 9]))
   (.cond (.t 9)
    (.seq (.ops [⟨(some 4), none, .move (.c (.pointer none))⟩,
      ⟨(some 5), none, .move (.c (.int .i64 9))⟩] (some [4, 5]))
    .ret)
    (.seq (.ops [⟨(some 13), none, .move (.t 0)⟩,
      ⟨(some 14), none, .move (.t 1)⟩,
      ⟨(some 15), none, .calcB .len [9] 3 [(.t 14)]⟩,
      ⟨(some 16), none, .call (.c (.func (.func 321) #[] #[])) [(.t 13), (.t 15), (.c (.int .i64 0))]⟩,
      ⟨(some 17), none, .un .not (.t 16)⟩,
      ⟨(some 12), none, .move (.t 17)⟩] (some [0, 1, 12]))
    (.cond (.t 12)
     (.seq (.ops [⟨(some 4), none, .move (.c (.pointer none))⟩,
       ⟨(some 5), none, .move (.c (.int .i64 16))⟩] (some [4, 5]))
     .ret)
     .skip)))))))
 (.seq (.opsd [(0, 0, ⟨(some 18), none, .move (.t 0)⟩),
   (1, 0, ⟨(some 19), none, .move (.t 0)⟩),
   (2, 2, ⟨(some 20), none, .nilCheck (.t 19)⟩),
   (3, 6, ⟨(some 21), none, .fieldAddr 1 (.t 20)⟩),
   (4, 14, ⟨(some 22), none, .load false 1 (.t 21)⟩),
   (5, 30, ⟨(some 23), none, .bin .mul 3 (.c (.int .i64 2)) (.t 22)⟩),
   (6, 62, ⟨(some 24), none, .bin .add 3 (.t 23) (.c (.int .i64 1))⟩),
   (7, 0, ⟨(some 25), none, .move (.t 0)⟩),
   (8, 128, ⟨(some 26), none, .nilCheck (.t 25)⟩),
   (9, 384, ⟨(some 27), none, .fieldAddr 2 (.t 26)⟩),
   (10, 896, ⟨(some 28), none, .load false 1 (.t 27)⟩),
   (11, 2046, ⟨(some 29), none, .bin .sub 3 (.t 24) (.t 28)⟩),
   (12, 0, ⟨(some 30), none, .move (.t 0)⟩),
   (13, 4096, ⟨(some 31), none, .nilCheck (.t 30)⟩),
   (14, 12288, ⟨(some 32), none, .fieldAddr 3 (.t 31)⟩),
   (15, 28672, ⟨(some 33), none, .load false 1 (.t 32)⟩),
   (16, 61440, ⟨(some 34), none, .bin .add 3 (.t 33) (.c (.int .i64 1))⟩),
   (17, 0, ⟨(some 35), none, .move (.t 1)⟩),
   (18, 131072, ⟨(some 36), none, .call (.c (.func (.func 323) #[] #[])) [(.t 35)]⟩),
   (19, 524286, ⟨(some 37), none, .build [(.pointer none), (.int .i64 0), (.int .i64 0), (.int .i64 0), (.slice none 0 0), (.int .i64 0), (.bool false)] [(0, 1), (1, 1), (2, 1), (3, 1), (4, 1), (5, 1), (6, 1)] [(1, (.t 29)), (2, (.t 34)), (4, (.t 36))]⟩),
   (20, 1048574, ⟨(some 38), none, .box (.t 37)⟩),
   (21, 2097151, ⟨(some 39), none, .call (.c (.func (.func 322) #[] #[])) [(.t 18), (.t 38)]⟩),
   (22, 4194303, ⟨(some 40), none, .extract (.t 39) 0⟩),
   (23, 4194303, ⟨(some 41), none, .extract (.t 39) 1⟩),
   (24, 16777215, ⟨(some 4), none, .move (.t 40)⟩),
   (25, 33554431, ⟨(some 5), none, .move (.t 41)⟩)] (some [4, 5]))
 .ret))), [.tmp 4, .tmp 5]⟩

theorem is229 : FnIs Tryz.prog 229 x229 := ⟨Tryz.f229, _, Tryz.func229, by kernel_rfl, rfl, by kernel_rfl, by decide, by kernel_rfl⟩

/-- (*cloisonne/seglog.Writer).Move -/
def x230 : XDecl := .code ⟨1, 
 (.seq (.ops [⟨(some 2), none, .move (.c (.int .i64 0))⟩,
   ⟨(some 3), none, .move (.c (.int .i64 0))⟩] (some [0]))
 (.seq (.ops [⟨(some 4), none, .move (.c (.int .i64 0))⟩] (some [0]))
 (.seq (.block 0
  (.seq (.ops [⟨(some 8), none, .move (.t 0)⟩,
    ⟨(some 9), none, .isNil .ptr false (.t 8)⟩,
    ⟨(some 7), none, .move (.t 9)⟩] (some [0, 7]))
  (.cond (.t 7)
   (.seq (.ops [⟨(some 2), none, .move (.c (.int .i64 0))⟩,
     ⟨(some 3), none, .move (.c (.int .i64 2))⟩] (some [2, 3]))
   .ret)
   (.seq (.ops [⟨(some 11), none, .move (.t 0)⟩,
     ⟨(some 12), none, .nilCheck (.t 11)⟩,
     ⟨(some 13), none, .fieldAddr 6 (.t 12)⟩,
     ⟨(some 14), none, .load false 1 (.t 13)⟩,
     ⟨(some 10), none, .move (.t 14)⟩] (some [0, 10]))
   (.cond (.t 10)
    (.seq (.ops [⟨(some 2), none, .move (.c (.int .i64 2))⟩,
      ⟨(some 3), none, .move (.c (.int .i64 0))⟩] (some [2, 3]))
    .ret)
    (.seq (.opsr [⟨(some 16), none, .move (.t 0)⟩,
      ⟨(some 17), none, .nilCheck (.t 16)⟩,
      ⟨(some 18), none, .fieldAddr 5 (.t 17)⟩,
      ⟨(some 19), none, .load false 1 (.t 18)⟩,
      ⟨(some 20), none, .move (.t 0)⟩,
      ⟨(some 21), none, .nilCheck (.t 20)⟩,
      ⟨(some 22), none, .fieldAddr 4 (.t 21)⟩,
      ⟨(some 23), none, .load false 1 (.t 22)⟩,
      ⟨(some 24), none, .len (.t 23)⟩,
      ⟨(some 25), none, .bin .lss 3 (.t 19) (.t 24)⟩,
      ⟨(some 15), none, .move (.t 25)⟩] (some [0, 15]))
    (.cond (.t 15)
     (.ops [⟨(some 26), none, .move (.t 0)⟩,
       ⟨(some 27), none, .call (.c (.func (.func 324) #[] #[])) [(.t 26)]⟩,
       ⟨(some 4), none, .move (.t 27)⟩] (some [0, 4]))
     (.seq (.opsr [⟨(some 29), none, .move (.t 0)⟩,
       ⟨(some 30), none, .nilCheck (.t 29)⟩,
       ⟨(some 31), none, .fieldAddr 5 (.t 30)⟩,
       ⟨(some 32), none, .load false 1 (.t 31)⟩,
       ⟨(some 33), none, .move (.t 0)⟩,
       ⟨(some 34), none, .nilCheck (.t 33)⟩,
       ⟨(some 35), none, .fieldAddr 4 (.t 34)⟩,
       ⟨(some 36), none, .load false 1 (.t 35)⟩,
       ⟨(some 37), none, .len (.t 36)⟩,
       ⟨(some 38), none, .bin .eql 3 (.t 32) (.t 37)⟩,
       ⟨(some 28), none, .move (.t 38)⟩] (some [0, 28]))
     (.cond (.t 28)
      (.opsd [(0, 0, ⟨(some 39), none, .move (.t 0)⟩),
        (1, 1, ⟨(some 40), none, .nilCheck (.t 39)⟩),
        (2, 3, ⟨(some 41), none, .fieldAddr 0 (.t 40)⟩),
        (3, 7, ⟨(some 42), none, .load false 1 (.t 41)⟩),
        (4, 15, ⟨(some 43), none, .nilCheck (.t 42)⟩),
        (5, 31, ⟨(some 44), none, .fieldAddr 0 (.t 43)⟩),
        (6, 63, ⟨(some 45), none, .load false 1 (.t 44)⟩),
        (7, 0, ⟨(some 46), none, .move (.t 0)⟩),
        (8, 128, ⟨(some 47), none, .nilCheck (.t 46)⟩),
        (9, 384, ⟨(some 48), none, .fieldAddr 1 (.t 47)⟩),
        (10, 896, ⟨(some 49), none, .load false 1 (.t 48)⟩),
        (11, 2047, ⟨(some 50), none, .call (.c (.func (.func 325) #[] #[])) [(.t 45), (.t 49)]⟩),
        (12, 4095, ⟨(some 4), none, .move (.t 50)⟩)] (some [0, 4]))
      (.seq (.ops [⟨(some 5), none, .move (.t 0)⟩,
        ⟨(some 6), none, .call (.c (.func (.func 326) #[] #[])) [(.t 5)]⟩] (some []))
      (.seq (.ops [⟨(some 2), none, .move (.c (.int .i64 2))⟩,
        ⟨(some 3), none, .move (.c (.int .i64 0))⟩] (some [2, 3]))
      .ret)))))))))))
 (.seq (.seq (.ops [⟨(some 51), none, .move (.t 4)⟩,
   ⟨(some 52), none, .bin .neq 34 (.t 51) (.c (.int .i64 0))⟩] (some [0, 4, 52]))
 (.cond (.t 52)
  (.seq (.ops [⟨(some 53), none, .move (.t 4)⟩,
    ⟨(some 2), none, .move (.c (.int .i64 0))⟩,
    ⟨(some 3), none, .move (.t 53)⟩] (some [2, 3]))
  .ret)
  .skip))
 (.seq (.ops [⟨(some 54), none, .move (.t 0)⟩,
   ⟨(some 55), none, .nilCheck (.t 54)⟩,
   ⟨(some 56), none, .fieldAddr 5 (.t 55)⟩,
   ⟨(some 57), none, .load false 1 (.t 56)⟩,
   ⟨(some 58), none, .bin .add 3 (.t 57) (.c (.int .i64 1))⟩,
   ⟨(some 59), none, .nilCheck (.t 54)⟩,
   ⟨(some 60), none, .fieldAddr 5 (.t 59)⟩,
   ⟨none, none, .store 1 (.t 60) (.t 58)⟩] (some []))
 (.seq (.ops [⟨(some 2), none, .move (.c (.int .i64 1))⟩,
   ⟨(some 3), none, .move (.c (.int .i64 0))⟩] (some [2, 3]))
 .ret)))))), [.tmp 2, .tmp 3]⟩

theorem is230 : FnIs Tryz.prog 230 x230 := ⟨Tryz.f230, _, Tryz.func230, by kernel_rfl, rfl, by kernel_rfl, by decide, by kernel_rfl⟩

/-- (*cloisonne/caps.Table).People -/
def x232 : XDecl := .code ⟨1, 
 (.seq (.ops [⟨(some 2), none, .move (.c (.int .i64 0))⟩] (some [0]))
 (.seq (.seq (.ops [⟨(some 3), none, .move (.t 0)⟩,
   ⟨(some 4), none, .isNil .ptr false (.t 3)⟩] (some [0, 4]))
 (.cond (.t 4)
  (.seq (.ops [⟨(some 2), none, .move (.c (.int .i64 0))⟩] (some [2]))
  .ret)
  .skip))
 (.seq (.ops [⟨(some 5), none, .move (.t 0)⟩,
   ⟨(some 6), none, .nilCheck (.t 5)⟩,
   ⟨(some 7), none, .fieldAddr 1 (.t 6)⟩,
   ⟨(some 8), none, .load false 1 (.t 7)⟩,
   ⟨(some 9), none, .len (.t 8)⟩,
   ⟨(some 2), none, .move (.t 9)⟩] (some [2]))
 .ret))), [.tmp 2]⟩

theorem is232 : FnIs Tryz.prog 232 x232 := ⟨Tryz.f232, _, Tryz.func232, by kernel_rfl, rfl, by kernel_rfl, by decide, by kernel_rfl⟩


end Go.Proofs.YtlhinicapcdikaaGreatDoor.X
