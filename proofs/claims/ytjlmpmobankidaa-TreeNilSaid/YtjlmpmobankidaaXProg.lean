/-
  Own work, printed by a program of ours (mkprog.py): the functions of this seat as code of the abstract run, and that each is the model's.
-/
import Derived.Test.YtjlmpmobankidaaXLaw
import Derived.Test.YtjlmpmobankidaaChecked
set_option maxRecDepth 100000
namespace Go.Proofs.Ytjlmpmobankidaa.X
open Go

/-- cloisonne/cloisonnelaw08.TreeNil -/
def x4 : XDecl := .code ⟨2, 
 (.seq (.ops [⟨(some 4), none, .move (.c (.bool false))⟩] (some [0, 1]))
 (.seq (.seq (.ops [⟨(some 22), none, .call (.c (.func (.func 16) #[] #[])) []⟩,
   ⟨(some 23), none, .un .not (.t 22)⟩] (some [0, 1, 23]))
 (.cond (.t 23)
  (.seq (.ops [⟨(some 4), none, .move (.c (.bool false))⟩] (some [4]))
  .ret)
  .skip))
 (.seq (.ops [⟨(some 5), none, .move (.c (.pointer none))⟩] (some [0, 1, 5]))
 (.seq (.ops [⟨(some 25), none, .move (.t 5)⟩,
   ⟨(some 26), none, .move (.t 0)⟩,
   ⟨(some 27), none, .move (.t 1)⟩,
   ⟨(some 28), none, .call (.c (.func (.func 17) #[] #[])) [(.t 25), (.t 26), (.t 27)]⟩,
   ⟨(some 24), none, .move (.t 28)⟩,
   ⟨(some 29), none, .extract (.t 24) 0⟩,
   ⟨(some 30), none, .extract (.t 24) 1⟩,
   ⟨(some 31), none, .extract (.t 24) 2⟩,
   ⟨(some 6), none, .move (.t 29)⟩,
   ⟨(some 7), none, .move (.t 30)⟩,
   ⟨(some 8), none, .move (.t 31)⟩] (some [0, 1, 5, 6, 7, 8]))
 (.seq (.ops [⟨(some 33), none, .move (.t 5)⟩,
   ⟨(some 34), none, .move (.t 0)⟩,
   ⟨(some 35), none, .call (.c (.func (.func 18) #[] #[])) [(.t 33), (.t 34)]⟩,
   ⟨(some 32), none, .move (.t 35)⟩,
   ⟨(some 36), none, .extract (.t 32) 0⟩,
   ⟨(some 37), none, .extract (.t 32) 1⟩,
   ⟨(some 9), none, .move (.t 36)⟩,
   ⟨(some 10), none, .move (.t 37)⟩] (some [0, 1, 5, 6, 7, 8, 9, 10]))
 (.seq (.ops [⟨(some 39), none, .move (.t 5)⟩,
   ⟨(some 40), none, .move (.t 0)⟩,
   ⟨(some 41), none, .call (.c (.func (.func 19) #[] #[])) [(.t 39), (.t 40)]⟩,
   ⟨(some 38), none, .move (.t 41)⟩,
   ⟨(some 42), none, .extract (.t 38) 0⟩,
   ⟨(some 43), none, .extract (.t 38) 1⟩,
   ⟨(some 11), none, .move (.t 42)⟩,
   ⟨(some 12), none, .move (.t 43)⟩] (some [0, 1, 5, 6, 7, 8, 9, 10, 11, 12]))
 (.seq (.ops [⟨(some 45), none, .move (.t 5)⟩,
   ⟨(some 46), none, .move (.t 0)⟩,
   ⟨(some 47), none, .call (.c (.func (.func 20) #[] #[])) [(.t 45), (.t 46)]⟩,
   ⟨(some 44), none, .move (.t 47)⟩,
   ⟨(some 48), none, .extract (.t 44) 0⟩,
   ⟨(some 49), none, .extract (.t 44) 1⟩,
   ⟨(some 50), none, .extract (.t 44) 2⟩,
   ⟨(some 13), none, .move (.t 48)⟩,
   ⟨(some 14), none, .move (.t 49)⟩,
   ⟨(some 15), none, .move (.t 50)⟩] (some [0, 1, 5, 6, 7, 8, 9, 10, 11, 12, 13, 14, 15]))
 (.seq (.ops [⟨(some 52), none, .move (.t 5)⟩,
   ⟨(some 53), none, .move (.t 0)⟩,
   ⟨(some 54), none, .call (.c (.func (.func 21) #[] #[])) [(.t 52), (.t 53)]⟩,
   ⟨(some 51), none, .move (.t 54)⟩,
   ⟨(some 55), none, .extract (.t 51) 0⟩,
   ⟨(some 56), none, .extract (.t 51) 1⟩,
   ⟨(some 57), none, .extract (.t 51) 2⟩,
   ⟨(some 16), none, .move (.t 55)⟩,
   ⟨(some 17), none, .move (.t 56)⟩,
   ⟨(some 18), none, .move (.t 57)⟩] (some [0, 1, 5, 6, 7, 8, 9, 10, 11, 12, 13, 14, 15, 16, 17, 18]))
 (.seq (.ops [⟨(some 59), none, .move (.t 5)⟩,
   ⟨(some 60), none, .move (.t 0)⟩,
   ⟨(some 61), none, .call (.c (.func (.func 22) #[] #[])) [(.t 59), (.t 60)]⟩,
   ⟨(some 58), none, .move (.t 61)⟩,
   ⟨(some 62), none, .extract (.t 58) 0⟩,
   ⟨(some 63), none, .extract (.t 58) 1⟩,
   ⟨(some 64), none, .extract (.t 58) 2⟩,
   ⟨(some 19), none, .move (.t 62)⟩,
   ⟨(some 20), none, .move (.t 63)⟩,
   ⟨(some 21), none, .move (.t 64)⟩] (some [0, 1, 5, 6, 7, 8, 9, 10, 11, 12, 13, 14, 15, 16, 17, 18, 19, 20, 21]))
 (.seq (.ops [⟨(some 65), none, .move (.t 6)⟩,
   ⟨(some 66), none, .bin .eql 3 (.t 65) (.c (.int .i64 0))⟩,
   ⟨(some 67), none, .move (.t 66)⟩,
   ⟨(some 68), (some (67, true)), .move (.t 7)⟩,
   ⟨(some 69), (some (67, true)), .un .not (.t 68)⟩,
   ⟨(some 70), none, .pick (.t 67) (.t 69) (.c (.bool false))⟩,
   ⟨(some 71), none, .move (.t 70)⟩,
   ⟨(some 72), (some (71, true)), .move (.t 8)⟩,
   ⟨(some 73), (some (71, true)), .bin .eql 33 (.t 72) (.c (.int .i64 2))⟩,
   ⟨(some 74), none, .pick (.t 71) (.t 73) (.c (.bool false))⟩,
   ⟨(some 75), none, .move (.t 74)⟩,
   ⟨(some 76), (some (75, true)), .move (.t 9)⟩,
   ⟨(some 77), (some (75, true)), .bin .eql 3 (.t 76) (.c (.int .i64 0))⟩,
   ⟨(some 78), none, .pick (.t 75) (.t 77) (.c (.bool false))⟩,
   ⟨(some 79), none, .move (.t 78)⟩,
   ⟨(some 80), (some (79, true)), .move (.t 10)⟩,
   ⟨(some 81), (some (79, true)), .un .not (.t 80)⟩,
   ⟨(some 82), none, .pick (.t 79) (.t 81) (.c (.bool false))⟩,
   ⟨(some 83), none, .move (.t 82)⟩,
   ⟨(some 84), (some (83, true)), .move (.t 11)⟩,
   ⟨(some 85), (some (83, true)), .bin .eql 3 (.t 84) (.c (.int .i64 0))⟩,
   ⟨(some 86), none, .pick (.t 83) (.t 85) (.c (.bool false))⟩,
   ⟨(some 87), none, .move (.t 86)⟩,
   ⟨(some 88), (some (87, true)), .move (.t 12)⟩,
   ⟨(some 89), (some (87, true)), .un .not (.t 88)⟩,
   ⟨(some 90), none, .pick (.t 87) (.t 89) (.c (.bool false))⟩,
   ⟨(some 91), none, .move (.t 90)⟩,
   ⟨(some 92), (some (91, true)), .move (.t 13)⟩,
   ⟨(some 93), (some (91, true)), .bin .eql 9 (.t 92) (.c (.string .empty))⟩,
   ⟨(some 94), none, .pick (.t 91) (.t 93) (.c (.bool false))⟩,
   ⟨(some 95), none, .move (.t 94)⟩,
   ⟨(some 96), (some (95, true)), .move (.t 14)⟩,
   ⟨(some 97), (some (95, true)), .bin .eql 3 (.t 96) (.c (.int .i64 0))⟩,
   ⟨(some 98), none, .pick (.t 95) (.t 97) (.c (.bool false))⟩,
   ⟨(some 99), none, .move (.t 98)⟩,
   ⟨(some 100), (some (99, true)), .move (.t 15)⟩,
   ⟨(some 101), (some (99, true)), .un .not (.t 100)⟩,
   ⟨(some 102), none, .pick (.t 99) (.t 101) (.c (.bool false))⟩,
   ⟨(some 103), none, .move (.t 102)⟩,
   ⟨(some 104), (some (103, true)), .move (.t 16)⟩,
   ⟨(some 105), (some (103, true)), .bin .eql 9 (.t 104) (.c (.string .empty))⟩,
   ⟨(some 106), none, .pick (.t 103) (.t 105) (.c (.bool false))⟩,
   ⟨(some 107), none, .move (.t 106)⟩,
   ⟨(some 108), (some (107, true)), .move (.t 17)⟩,
   ⟨(some 109), (some (107, true)), .bin .eql 3 (.t 108) (.c (.int .i64 0))⟩,
   ⟨(some 110), none, .pick (.t 107) (.t 109) (.c (.bool false))⟩,
   ⟨(some 111), none, .move (.t 110)⟩,
   ⟨(some 112), (some (111, true)), .move (.t 18)⟩,
   ⟨(some 113), (some (111, true)), .un .not (.t 112)⟩,
   ⟨(some 114), none, .pick (.t 111) (.t 113) (.c (.bool false))⟩,
   ⟨(some 115), none, .move (.t 114)⟩,
   ⟨(some 116), (some (115, true)), .move (.t 19)⟩,
   ⟨(some 117), (some (115, true)), .bin .eql 9 (.t 116) (.c (.string .empty))⟩,
   ⟨(some 118), none, .pick (.t 115) (.t 117) (.c (.bool false))⟩,
   ⟨(some 119), none, .move (.t 118)⟩,
   ⟨(some 120), (some (119, true)), .move (.t 20)⟩,
   ⟨(some 121), (some (119, true)), .bin .eql 3 (.t 120) (.c (.int .i64 0))⟩,
   ⟨(some 122), none, .pick (.t 119) (.t 121) (.c (.bool false))⟩,
   ⟨(some 123), none, .move (.t 122)⟩,
   ⟨(some 124), (some (123, true)), .move (.t 21)⟩,
   ⟨(some 125), (some (123, true)), .un .not (.t 124)⟩,
   ⟨(some 126), none, .pick (.t 123) (.t 125) (.c (.bool false))⟩,
   ⟨(some 127), none, .move (.t 126)⟩,
   ⟨(some 128), (some (127, true)), .move (.t 5)⟩,
   ⟨(some 129), (some (127, true)), .call (.c (.func (.func 23) #[] #[])) [(.t 128)]⟩,
   ⟨(some 130), (some (127, true)), .bin .eql 3 (.t 129) (.c (.int .i64 0))⟩,
   ⟨(some 131), none, .pick (.t 127) (.t 130) (.c (.bool false))⟩,
   ⟨(some 132), none, .move (.t 131)⟩,
   ⟨(some 133), (some (132, true)), .move (.t 5)⟩,
   ⟨(some 134), (some (132, true)), .move (.t 0)⟩,
   ⟨(some 135), (some (132, true)), .move (.t 1)⟩,
   ⟨(some 136), (some (132, true)), .call (.c (.func (.func 24) #[] #[])) [(.t 133), (.t 134), (.t 135)]⟩,
   ⟨(some 137), (some (132, true)), .len (.t 136)⟩,
   ⟨(some 138), (some (132, true)), .bin .eql 3 (.t 137) (.c (.int .i64 0))⟩,
   ⟨(some 139), none, .pick (.t 132) (.t 138) (.c (.bool false))⟩,
   ⟨(some 140), none, .move (.t 139)⟩,
   ⟨(some 141), (some (140, true)), .move (.t 5)⟩,
   ⟨(some 142), (some (140, true)), .call (.c (.func (.func 25) #[] #[])) [(.t 141)]⟩,
   ⟨(some 143), (some (140, true)), .bin .eql 3 (.t 142) (.c (.int .i64 0))⟩,
   ⟨(some 144), none, .pick (.t 140) (.t 143) (.c (.bool false))⟩,
   ⟨(some 145), none, .move (.t 144)⟩,
   ⟨(some 146), (some (145, true)), .move (.t 5)⟩,
   ⟨(some 147), (some (145, true)), .call (.c (.func (.func 26) #[] #[])) [(.t 146)]⟩,
   ⟨(some 148), (some (145, true)), .bin .eql 3 (.t 147) (.c (.int .i64 0))⟩,
   ⟨(some 149), none, .pick (.t 145) (.t 148) (.c (.bool false))⟩,
   ⟨(some 4), none, .move (.t 149)⟩] (some [4]))
 .ret)))))))))), [.tmp 4]⟩

/-- cloisonne/cloisonnelaw08.awake -/
def x16 : XDecl := .code ⟨0, 
 (.seq (.ops [⟨(some 0), none, .move (.c (.bool false))⟩] (some []))
 (.seq (.ops [⟨(some 3), none, .call (.c (.func (.func 33) #[] #[])) []⟩,
   ⟨(some 1), none, .move (.t 3)⟩] (some [1]))
 (.seq (.seq (.ops [⟨(some 2), none, .move (.c (.int .i64 0))⟩] (some [1, 2]))
 (.block 0
  (.loop
   (.seq (.seq (.ops [⟨(some 4), none, .move (.t 2)⟩,
     ⟨(some 5), none, .bin .lss 3 (.t 4) (.c (.int .i64 5))⟩] (some [1, 2, 5]))
   (.cond (.t 5)
    .skip
    (.exit 0)))
   (.seq (.block 1
    (.ops [⟨(some 8), none, .move (.t 1)⟩,
      ⟨(some 9), none, .move (.t 2)⟩,
      ⟨(some 10), none, .bin .add 3 (.c (.int .i64 97)) (.t 9)⟩,
      ⟨(some 11), none, .conv 3 5 (.t 10)⟩,
      ⟨(some 12), none, .buildSlice [(.int .u8 0)] 1 1 [(0, (.t 11))]⟩,
      ⟨(some 13), none, .bstr (.t 12)⟩,
      ⟨(some 14), none, .move (.t 2)⟩,
      ⟨(some 15), none, .call (.c (.func (.func 17) #[] #[])) [(.t 8), (.t 13), (.t 14)]⟩] (some [1, 2])))
   (.ops [⟨(some 6), none, .move (.t 2)⟩,
     ⟨(some 7), none, .bin .add 3 (.t 6) (.c (.int .i64 1))⟩,
     ⟨(some 2), none, .move (.t 7)⟩] (some [1, 2])))))))
 (.seq (.ops [⟨(some 16), none, .move (.t 1)⟩,
   ⟨(some 17), none, .call (.c (.func (.func 25) #[] #[])) [(.t 16)]⟩,
   ⟨(some 18), none, .bin .eql 3 (.t 17) (.c (.int .i64 2))⟩,
   ⟨(some 19), none, .move (.t 18)⟩,
   ⟨(some 20), (some (19, true)), .move (.t 1)⟩,
   ⟨(some 21), (some (19, true)), .call (.c (.func (.func 26) #[] #[])) [(.t 20)]⟩,
   ⟨(some 22), (some (19, true)), .bin .eql 3 (.t 21) (.c (.int .i64 3))⟩,
   ⟨(some 23), none, .pick (.t 19) (.t 22) (.c (.bool false))⟩,
   ⟨(some 0), none, .move (.t 23)⟩] (some [0]))
 .ret)))), [.tmp 0]⟩

/-- (*cloisonne/tree.Tree).Put -/
def x17 : XDecl := .code ⟨3, 
 (.seq (.ops [⟨(some 6), none, .move (.c (.int .i64 0))⟩,
   ⟨(some 7), none, .move (.c (.bool false))⟩,
   ⟨(some 8), none, .move (.c (.int .i64 0))⟩] (some [0, 1, 2]))
 (.seq (.seq (.ops [⟨(some 16), none, .move (.t 0)⟩,
   ⟨(some 17), none, .isNil .ptr false (.t 16)⟩] (some [0, 1, 2, 17]))
 (.cond (.t 17)
  (.seq (.ops [⟨(some 6), none, .move (.c (.int .i64 0))⟩,
    ⟨(some 7), none, .move (.c (.bool false))⟩,
    ⟨(some 8), none, .move (.c (.int .i64 2))⟩] (some [6, 7, 8]))
  .ret)
  .skip))
 (.seq (.seq (.ops [⟨(some 19), none, .move (.t 0)⟩,
   ⟨(some 20), none, .move (.t 1)⟩,
   ⟨(some 21), none, .call (.c (.func (.func 34) #[] #[])) [(.t 19), (.t 20)]⟩,
   ⟨(some 18), none, .move (.t 21)⟩,
   ⟨(some 22), none, .extract (.t 18) 0⟩,
   ⟨(some 23), none, .extract (.t 18) 1⟩,
   ⟨(some 24), none, .extract (.t 18) 2⟩,
   ⟨(some 9), none, .move (.t 22)⟩,
   ⟨(some 10), none, .move (.t 23)⟩,
   ⟨(some 11), none, .move (.t 24)⟩] (some [0, 1, 2, 9, 10, 11]))
 (.seq (.ops [⟨(some 25), none, .move (.t 11)⟩] (some [0, 1, 2, 9, 10, 25]))
 (.cond (.t 25)
  (.seq (.ops [⟨(some 26), none, .move (.t 9)⟩,
    ⟨(some 27), none, .nilCheck (.t 26)⟩,
    ⟨(some 28), none, .fieldAddr 1 (.t 27)⟩,
    ⟨(some 29), none, .load false 1 (.t 28)⟩,
    ⟨(some 30), none, .move (.t 10)⟩,
    ⟨(some 31), none, .indexAddr 1 (.t 29) (.t 30)⟩,
    ⟨(some 32), none, .load false 1 (.t 31)⟩,
    ⟨(some 12), none, .move (.t 32)⟩] (some [2, 9, 10, 12]))
  (.seq (.ops [⟨(some 33), none, .move (.t 9)⟩,
    ⟨(some 34), none, .nilCheck (.t 33)⟩,
    ⟨(some 35), none, .fieldAddr 1 (.t 34)⟩,
    ⟨(some 36), none, .load false 1 (.t 35)⟩,
    ⟨(some 37), none, .move (.t 10)⟩,
    ⟨(some 38), none, .move (.t 2)⟩,
    ⟨(some 39), none, .indexAddr 1 (.t 36) (.t 37)⟩,
    ⟨none, none, .store 1 (.t 39) (.t 38)⟩] (some [12]))
  (.seq (.ops [⟨(some 40), none, .move (.t 12)⟩,
    ⟨(some 6), none, .move (.t 40)⟩,
    ⟨(some 7), none, .move (.c (.bool true))⟩,
    ⟨(some 8), none, .move (.c (.int .i64 0))⟩] (some [6, 7, 8]))
  .ret)))
  .skip)))
 (.seq (.seq (.ops [⟨(some 41), none, .move (.t 0)⟩,
   ⟨(some 42), none, .nilCheck (.t 41)⟩,
   ⟨(some 43), none, .fieldAddr 3 (.t 42)⟩,
   ⟨(some 44), none, .load false 1 (.t 43)⟩,
   ⟨(some 45), none, .bin .geq 3 (.t 44) (.c (.int .i64 100000))⟩] (some [0, 1, 2, 45]))
 (.cond (.t 45)
  (.seq (.ops [⟨(some 6), none, .move (.c (.int .i64 0))⟩,
    ⟨(some 7), none, .move (.c (.bool false))⟩,
    ⟨(some 8), none, .move (.c (.int .i64 5))⟩] (some [6, 7, 8]))
  .ret)
  .skip))
 (.seq (.ops [⟨(some 46), none, .move (.t 0)⟩,
   ⟨(some 47), none, .nilCheck (.t 46)⟩,
   ⟨(some 48), none, .fieldAddr 3 (.t 47)⟩,
   ⟨(some 49), none, .load false 1 (.t 48)⟩,
   ⟨(some 50), none, .bin .add 3 (.t 49) (.c (.int .i64 1))⟩,
   ⟨(some 51), none, .nilCheck (.t 46)⟩,
   ⟨(some 52), none, .fieldAddr 3 (.t 51)⟩,
   ⟨none, none, .store 1 (.t 52) (.t 50)⟩] (some [0, 1, 2]))
 (.seq (.seq (.ops [⟨(some 53), none, .move (.t 0)⟩,
   ⟨(some 54), none, .nilCheck (.t 53)⟩,
   ⟨(some 55), none, .fieldAddr 2 (.t 54)⟩,
   ⟨(some 56), none, .load false 1 (.t 55)⟩,
   ⟨(some 57), none, .bin .lss 3 (.t 56) (.c (.int .i64 0))⟩] (some [0, 1, 2, 57]))
 (.cond (.t 57)
  (.seq (.ops [⟨(some 58), none, .move (.t 0)⟩,
    ⟨(some 59), none, .move (.t 0)⟩,
    ⟨(some 60), none, .move (.t 1)⟩,
    ⟨(some 61), none, .buildSlice [(.string .empty)] 1 1 [(0, (.t 60))]⟩,
    ⟨(some 62), none, .move (.t 2)⟩,
    ⟨(some 63), none, .buildSlice [(.int .i64 0)] 1 1 [(0, (.t 62))]⟩,
    ⟨(some 64), none, .build [(.slice none 0 0), (.slice none 0 0), (.slice none 0 0)] [(0, 1), (1, 1), (2, 1)] [(0, (.t 61)), (1, (.t 63))]⟩,
    ⟨(some 65), none, .call (.c (.func (.func 35) #[] #[])) [(.t 59), (.t 64)]⟩,
    ⟨(some 66), none, .nilCheck (.t 58)⟩,
    ⟨(some 67), none, .fieldAddr 2 (.t 66)⟩,
    ⟨none, none, .store 1 (.t 67) (.t 65)⟩] (some []))
  (.seq (.ops [⟨(some 6), none, .move (.c (.int .i64 0))⟩,
    ⟨(some 7), none, .move (.c (.bool false))⟩,
    ⟨(some 8), none, .move (.c (.int .i64 0))⟩] (some [6, 7, 8]))
  .ret))
  .skip))
 (.seq (.ops [⟨(some 68), none, .move (.t 0)⟩,
   ⟨(some 69), none, .move (.t 0)⟩,
   ⟨(some 70), none, .nilCheck (.t 69)⟩,
   ⟨(some 71), none, .fieldAddr 2 (.t 70)⟩,
   ⟨(some 72), none, .load false 1 (.t 71)⟩,
   ⟨(some 73), none, .move (.t 1)⟩,
   ⟨(some 74), none, .move (.t 2)⟩,
   ⟨(some 75), none, .call (.c (.func (.func 36) #[] #[])) [(.t 68), (.t 72), (.t 73), (.t 74)]⟩] (some [0]))
 (.seq (.seq (.opsd [(0, 0, ⟨(some 76), none, .move (.t 0)⟩),
   (1, 1, ⟨(some 77), none, .nilCheck (.t 76)⟩),
   (2, 3, ⟨(some 78), none, .fieldAddr 0 (.t 77)⟩),
   (3, 7, ⟨(some 79), none, .load false 1 (.t 78)⟩),
   (4, 0, ⟨(some 80), none, .move (.t 0)⟩),
   (5, 16, ⟨(some 81), none, .nilCheck (.t 80)⟩),
   (6, 48, ⟨(some 82), none, .fieldAddr 2 (.t 81)⟩),
   (7, 112, ⟨(some 83), none, .load false 1 (.t 82)⟩),
   (8, 255, ⟨(some 84), none, .indexAddr 3 (.t 79) (.t 83)⟩),
   (9, 511, ⟨(some 85), none, .call (.c (.func (.func 37) #[] #[])) [(.t 84)]⟩),
   (10, 1023, ⟨(some 86), none, .bin .gtr 3 (.t 85) (.c (.int .i64 4))⟩)] (some [0, 86]))
 (.cond (.t 86)
  (.seq (.ops [⟨(some 87), none, .move (.t 0)⟩,
    ⟨(some 88), none, .nilCheck (.t 87)⟩,
    ⟨(some 89), none, .fieldAddr 2 (.t 88)⟩,
    ⟨(some 90), none, .load false 1 (.t 89)⟩,
    ⟨(some 13), none, .move (.t 90)⟩] (some [0, 13]))
  (.seq (.ops [⟨(some 92), none, .move (.t 0)⟩,
    ⟨(some 93), none, .move (.t 13)⟩,
    ⟨(some 94), none, .call (.c (.func (.func 38) #[] #[])) [(.t 92), (.t 93)]⟩,
    ⟨(some 91), none, .move (.t 94)⟩,
    ⟨(some 95), none, .extract (.t 91) 0⟩,
    ⟨(some 96), none, .extract (.t 91) 1⟩,
    ⟨(some 14), none, .move (.t 95)⟩,
    ⟨(some 15), none, .move (.t 96)⟩] (some [0, 13, 14, 15]))
  (.ops [⟨(some 97), none, .move (.t 0)⟩,
    ⟨(some 98), none, .move (.t 0)⟩,
    ⟨(some 99), none, .move (.t 15)⟩,
    ⟨(some 100), none, .buildSlice [(.string .empty)] 1 1 [(0, (.t 99))]⟩,
    ⟨(some 101), none, .move (.t 13)⟩,
    ⟨(some 102), none, .move (.t 14)⟩,
    ⟨(some 103), none, .buildSlice [(.int .i64 0)] 1 2 [(0, (.t 101)), (1, (.t 102))]⟩,
    ⟨(some 104), none, .build [(.slice none 0 0), (.slice none 0 0), (.slice none 0 0)] [(0, 1), (1, 1), (2, 1)] [(0, (.t 100)), (2, (.t 103))]⟩,
    ⟨(some 105), none, .call (.c (.func (.func 35) #[] #[])) [(.t 98), (.t 104)]⟩,
    ⟨(some 106), none, .nilCheck (.t 97)⟩,
    ⟨(some 107), none, .fieldAddr 2 (.t 106)⟩,
    ⟨none, none, .store 1 (.t 107) (.t 105)⟩] (some []))))
  .skip))
 (.seq (.ops [⟨(some 6), none, .move (.c (.int .i64 0))⟩,
   ⟨(some 7), none, .move (.c (.bool false))⟩,
   ⟨(some 8), none, .move (.c (.int .i64 0))⟩] (some [6, 7, 8]))
 .ret))))))))), [.tmp 6, .tmp 7, .tmp 8]⟩

/-- (*cloisonne/tree.Tree).Get -/
def x18 : XDecl := .code ⟨2, 
 (.seq (.ops [⟨(some 4), none, .move (.c (.int .i64 0))⟩,
   ⟨(some 5), none, .move (.c (.bool false))⟩] (some [0, 1]))
 (.seq (.ops [⟨(some 10), none, .move (.t 0)⟩,
   ⟨(some 11), none, .move (.t 1)⟩,
   ⟨(some 12), none, .call (.c (.func (.func 34) #[] #[])) [(.t 10), (.t 11)]⟩,
   ⟨(some 9), none, .move (.t 12)⟩,
   ⟨(some 13), none, .extract (.t 9) 0⟩,
   ⟨(some 14), none, .extract (.t 9) 1⟩,
   ⟨(some 15), none, .extract (.t 9) 2⟩,
   ⟨(some 6), none, .move (.t 13)⟩,
   ⟨(some 7), none, .move (.t 14)⟩,
   ⟨(some 8), none, .move (.t 15)⟩] (some [6, 7, 8]))
 (.seq (.seq (.ops [⟨(some 16), none, .move (.t 8)⟩,
   ⟨(some 17), none, .un .not (.t 16)⟩] (some [6, 7, 17]))
 (.cond (.t 17)
  (.seq (.ops [⟨(some 4), none, .move (.c (.int .i64 0))⟩,
    ⟨(some 5), none, .move (.c (.bool false))⟩] (some [4, 5]))
  .ret)
  .skip))
 (.seq (.ops [⟨(some 18), none, .move (.t 6)⟩,
   ⟨(some 19), none, .nilCheck (.t 18)⟩,
   ⟨(some 20), none, .fieldAddr 1 (.t 19)⟩,
   ⟨(some 21), none, .load false 1 (.t 20)⟩,
   ⟨(some 22), none, .move (.t 7)⟩,
   ⟨(some 23), none, .indexAddr 1 (.t 21) (.t 22)⟩,
   ⟨(some 24), none, .load false 1 (.t 23)⟩,
   ⟨(some 4), none, .move (.t 24)⟩,
   ⟨(some 5), none, .move (.c (.bool true))⟩] (some [4, 5]))
 .ret)))), [.tmp 4, .tmp 5]⟩

/-- (*cloisonne/tree.Tree).Del -/
def x19 : XDecl := .code ⟨2, 
 (.seq (.ops [⟨(some 4), none, .move (.c (.int .i64 0))⟩,
   ⟨(some 5), none, .move (.c (.bool false))⟩] (some [0, 1]))
 (.seq (.ops [⟨(some 10), none, .move (.t 0)⟩,
   ⟨(some 11), none, .move (.t 1)⟩,
   ⟨(some 12), none, .call (.c (.func (.func 18) #[] #[])) [(.t 10), (.t 11)]⟩,
   ⟨(some 9), none, .move (.t 12)⟩,
   ⟨(some 13), none, .extract (.t 9) 0⟩,
   ⟨(some 14), none, .extract (.t 9) 1⟩,
   ⟨(some 6), none, .move (.t 13)⟩,
   ⟨(some 7), none, .move (.t 14)⟩] (some [0, 1, 6, 7]))
 (.seq (.seq (.ops [⟨(some 15), none, .move (.t 7)⟩,
   ⟨(some 16), none, .un .not (.t 15)⟩] (some [0, 1, 6, 16]))
 (.cond (.t 16)
  (.seq (.ops [⟨(some 4), none, .move (.c (.int .i64 0))⟩,
    ⟨(some 5), none, .move (.c (.bool false))⟩] (some [4, 5]))
  .ret)
  .skip))
 (.seq (.ops [⟨(some 17), none, .move (.t 0)⟩,
   ⟨(some 18), none, .nilCheck (.t 17)⟩,
   ⟨(some 19), none, .fieldAddr 3 (.t 18)⟩,
   ⟨(some 20), none, .load false 1 (.t 19)⟩,
   ⟨(some 21), none, .bin .sub 3 (.t 20) (.c (.int .i64 1))⟩,
   ⟨(some 22), none, .nilCheck (.t 17)⟩,
   ⟨(some 23), none, .fieldAddr 3 (.t 22)⟩,
   ⟨none, none, .store 1 (.t 23) (.t 21)⟩] (some [0, 1, 6]))
 (.seq (.ops [⟨(some 24), none, .move (.t 0)⟩,
   ⟨(some 25), none, .move (.t 0)⟩,
   ⟨(some 26), none, .nilCheck (.t 25)⟩,
   ⟨(some 27), none, .fieldAddr 2 (.t 26)⟩,
   ⟨(some 28), none, .load false 1 (.t 27)⟩,
   ⟨(some 29), none, .move (.t 1)⟩,
   ⟨(some 30), none, .call (.c (.func (.func 39) #[] #[])) [(.t 24), (.t 28), (.t 29)]⟩] (some [0, 6]))
 (.seq (.seq (.opsd [(0, 0, ⟨(some 31), none, .move (.t 0)⟩),
   (1, 1, ⟨(some 32), none, .nilCheck (.t 31)⟩),
   (2, 3, ⟨(some 33), none, .fieldAddr 0 (.t 32)⟩),
   (3, 7, ⟨(some 34), none, .load false 1 (.t 33)⟩),
   (4, 0, ⟨(some 35), none, .move (.t 0)⟩),
   (5, 16, ⟨(some 36), none, .nilCheck (.t 35)⟩),
   (6, 48, ⟨(some 37), none, .fieldAddr 2 (.t 36)⟩),
   (7, 112, ⟨(some 38), none, .load false 1 (.t 37)⟩),
   (8, 255, ⟨(some 39), none, .indexAddr 3 (.t 34) (.t 38)⟩),
   (9, 511, ⟨(some 40), none, .load true 3 (.t 39)⟩),
   (10, 0, ⟨(some 8), none, .alloc [(.slice none 0 0), (.slice none 0 0), (.slice none 0 0)]⟩),
   (11, 2047, ⟨none, none, .store 3 (.t 8) (.t 40)⟩)] (some [0, 6, 8]))
 (.block 0
  (.seq (.ops [⟨(some 42), none, .fieldAddr 2 (.t 8)⟩,
    ⟨(some 43), none, .load false 1 (.t 42)⟩,
    ⟨(some 44), none, .len (.t 43)⟩,
    ⟨(some 45), none, .bin .eql 3 (.t 44) (.c (.int .i64 1))⟩,
    ⟨(some 41), none, .move (.t 45)⟩] (some [0, 6, 8, 41]))
  (.cond (.t 41)
   (.seq (.ops [⟨(some 46), none, .move (.t 0)⟩,
     ⟨(some 47), none, .move (.t 0)⟩,
     ⟨(some 48), none, .nilCheck (.t 47)⟩,
     ⟨(some 49), none, .fieldAddr 2 (.t 48)⟩,
     ⟨(some 50), none, .load false 1 (.t 49)⟩,
     ⟨(some 51), none, .call (.c (.func (.func 40) #[] #[])) [(.t 46), (.t 50)]⟩] (some [0, 6, 8]))
   (.ops [⟨(some 52), none, .move (.t 0)⟩,
     ⟨(some 53), none, .fieldAddr 2 (.t 8)⟩,
     ⟨(some 54), none, .load false 1 (.t 53)⟩,
     ⟨(some 55), none, .indexAddr 1 (.t 54) (.c (.int .i64 0))⟩,
     ⟨(some 56), none, .load false 1 (.t 55)⟩,
     ⟨(some 57), none, .nilCheck (.t 52)⟩,
     ⟨(some 58), none, .fieldAddr 2 (.t 57)⟩,
     ⟨none, none, .store 1 (.t 58) (.t 56)⟩] (some [6])))
   (.seq (.ops [⟨(some 60), none, .call (.c (.func (.func 41) #[] #[])) [(.t 8)]⟩,
     ⟨(some 61), none, .move (.t 60)⟩,
     ⟨(some 62), (some (61, true)), .fieldAddr 0 (.t 8)⟩,
     ⟨(some 63), (some (61, true)), .load false 1 (.t 62)⟩,
     ⟨(some 64), (some (61, true)), .len (.t 63)⟩,
     ⟨(some 65), (some (61, true)), .bin .eql 3 (.t 64) (.c (.int .i64 0))⟩,
     ⟨(some 66), none, .pick (.t 61) (.t 65) (.c (.bool false))⟩,
     ⟨(some 59), none, .move (.t 66)⟩] (some [0, 6, 59]))
   (.cond (.t 59)
    (.seq (.ops [⟨(some 67), none, .move (.t 0)⟩,
      ⟨(some 68), none, .move (.t 0)⟩,
      ⟨(some 69), none, .nilCheck (.t 68)⟩,
      ⟨(some 70), none, .fieldAddr 2 (.t 69)⟩,
      ⟨(some 71), none, .load false 1 (.t 70)⟩,
      ⟨(some 72), none, .call (.c (.func (.func 40) #[] #[])) [(.t 67), (.t 71)]⟩] (some [0, 6]))
    (.ops [⟨(some 73), none, .move (.t 0)⟩,
      ⟨(some 74), none, .nilCheck (.t 73)⟩,
      ⟨(some 75), none, .fieldAddr 2 (.t 74)⟩,
      ⟨none, none, .store 1 (.t 75) (.c (.int .i64 (-1)))⟩] (some [6])))
    .skip))))))
 (.seq (.ops [⟨(some 76), none, .move (.t 6)⟩,
   ⟨(some 4), none, .move (.t 76)⟩,
   ⟨(some 5), none, .move (.c (.bool true))⟩] (some [4, 5]))
 .ret))))))), [.tmp 4, .tmp 5]⟩

/-- (*cloisonne/tree.Tree).Seek -/
def x20 : XDecl := .code ⟨2, 
 (.seq (.ops [⟨(some 4), none, .move (.c (.string .empty))⟩,
   ⟨(some 5), none, .move (.c (.int .i64 0))⟩,
   ⟨(some 6), none, .move (.c (.bool false))⟩] (some [0, 1]))
 (.seq (.seq (.ops [⟨(some 7), none, .move (.t 0)⟩,
   ⟨(some 8), none, .call (.c (.func (.func 42) #[] #[])) [(.t 7)]⟩,
   ⟨(some 9), none, .un .not (.t 8)⟩] (some [0, 1, 9]))
 (.cond (.t 9)
  (.seq (.ops [⟨(some 4), none, .move (.c (.string .empty))⟩,
    ⟨(some 5), none, .move (.c (.int .i64 0))⟩,
    ⟨(some 6), none, .move (.c (.bool false))⟩] (some [4, 5, 6]))
  .ret)
  .skip))
 (.seq (.ops [⟨(some 10), none, .move (.t 0)⟩,
   ⟨(some 11), none, .move (.t 0)⟩,
   ⟨(some 12), none, .nilCheck (.t 11)⟩,
   ⟨(some 13), none, .fieldAddr 2 (.t 12)⟩,
   ⟨(some 14), none, .load false 1 (.t 13)⟩,
   ⟨(some 15), none, .move (.t 1)⟩,
   ⟨(some 16), none, .call (.c (.func (.func 43) #[] #[])) [(.t 10), (.t 14), (.t 15), (.c (.bool false))]⟩,
   ⟨(some 17), none, .extract (.t 16) 0⟩,
   ⟨(some 18), none, .extract (.t 16) 1⟩,
   ⟨(some 19), none, .extract (.t 16) 2⟩,
   ⟨(some 4), none, .move (.t 17)⟩,
   ⟨(some 5), none, .move (.t 18)⟩,
   ⟨(some 6), none, .move (.t 19)⟩] (some [4, 5, 6]))
 .ret))), [.tmp 4, .tmp 5, .tmp 6]⟩

/-- (*cloisonne/tree.Tree).After -/
def x21 : XDecl := .code ⟨2, 
 (.seq (.ops [⟨(some 4), none, .move (.c (.string .empty))⟩,
   ⟨(some 5), none, .move (.c (.int .i64 0))⟩,
   ⟨(some 6), none, .move (.c (.bool false))⟩] (some [0, 1]))
 (.seq (.seq (.ops [⟨(some 7), none, .move (.t 0)⟩,
   ⟨(some 8), none, .call (.c (.func (.func 42) #[] #[])) [(.t 7)]⟩,
   ⟨(some 9), none, .un .not (.t 8)⟩] (some [0, 1, 9]))
 (.cond (.t 9)
  (.seq (.ops [⟨(some 4), none, .move (.c (.string .empty))⟩,
    ⟨(some 5), none, .move (.c (.int .i64 0))⟩,
    ⟨(some 6), none, .move (.c (.bool false))⟩] (some [4, 5, 6]))
  .ret)
  .skip))
 (.seq (.ops [⟨(some 10), none, .move (.t 0)⟩,
   ⟨(some 11), none, .move (.t 0)⟩,
   ⟨(some 12), none, .nilCheck (.t 11)⟩,
   ⟨(some 13), none, .fieldAddr 2 (.t 12)⟩,
   ⟨(some 14), none, .load false 1 (.t 13)⟩,
   ⟨(some 15), none, .move (.t 1)⟩,
   ⟨(some 16), none, .call (.c (.func (.func 43) #[] #[])) [(.t 10), (.t 14), (.t 15), (.c (.bool true))]⟩,
   ⟨(some 17), none, .extract (.t 16) 0⟩,
   ⟨(some 18), none, .extract (.t 16) 1⟩,
   ⟨(some 19), none, .extract (.t 16) 2⟩,
   ⟨(some 4), none, .move (.t 17)⟩,
   ⟨(some 5), none, .move (.t 18)⟩,
   ⟨(some 6), none, .move (.t 19)⟩] (some [4, 5, 6]))
 .ret))), [.tmp 4, .tmp 5, .tmp 6]⟩

/-- (*cloisonne/tree.Tree).Before -/
def x22 : XDecl := .code ⟨2, 
 (.seq (.ops [⟨(some 4), none, .move (.c (.string .empty))⟩,
   ⟨(some 5), none, .move (.c (.int .i64 0))⟩,
   ⟨(some 6), none, .move (.c (.bool false))⟩] (some [0, 1]))
 (.seq (.seq (.ops [⟨(some 7), none, .move (.t 0)⟩,
   ⟨(some 8), none, .call (.c (.func (.func 42) #[] #[])) [(.t 7)]⟩,
   ⟨(some 9), none, .un .not (.t 8)⟩] (some [0, 1, 9]))
 (.cond (.t 9)
  (.seq (.ops [⟨(some 4), none, .move (.c (.string .empty))⟩,
    ⟨(some 5), none, .move (.c (.int .i64 0))⟩,
    ⟨(some 6), none, .move (.c (.bool false))⟩] (some [4, 5, 6]))
  .ret)
  .skip))
 (.seq (.ops [⟨(some 10), none, .move (.t 0)⟩,
   ⟨(some 11), none, .move (.t 0)⟩,
   ⟨(some 12), none, .nilCheck (.t 11)⟩,
   ⟨(some 13), none, .fieldAddr 2 (.t 12)⟩,
   ⟨(some 14), none, .load false 1 (.t 13)⟩,
   ⟨(some 15), none, .move (.t 1)⟩,
   ⟨(some 16), none, .call (.c (.func (.func 44) #[] #[])) [(.t 10), (.t 14), (.t 15)]⟩,
   ⟨(some 17), none, .extract (.t 16) 0⟩,
   ⟨(some 18), none, .extract (.t 16) 1⟩,
   ⟨(some 19), none, .extract (.t 16) 2⟩,
   ⟨(some 4), none, .move (.t 17)⟩,
   ⟨(some 5), none, .move (.t 18)⟩,
   ⟨(some 6), none, .move (.t 19)⟩] (some [4, 5, 6]))
 .ret))), [.tmp 4, .tmp 5, .tmp 6]⟩

/-- (*cloisonne/tree.Tree).Len -/
def x23 : XDecl := .code ⟨1, 
 (.seq (.ops [⟨(some 2), none, .move (.c (.int .i64 0))⟩] (some [0]))
 (.seq (.seq (.ops [⟨(some 3), none, .move (.t 0)⟩,
   ⟨(some 4), none, .isNil .ptr false (.t 3)⟩] (some [0, 4]))
 (.cond (.t 4)
  (.seq (.ops [⟨(some 2), none, .move (.c (.int .i64 0))⟩] (some [2]))
  .ret)
  .skip))
 (.seq (.ops [⟨(some 5), none, .move (.t 0)⟩,
   ⟨(some 6), none, .nilCheck (.t 5)⟩,
   ⟨(some 7), none, .fieldAddr 3 (.t 6)⟩,
   ⟨(some 8), none, .load false 1 (.t 7)⟩,
   ⟨(some 2), none, .move (.t 8)⟩] (some [2]))
 .ret))), [.tmp 2]⟩

/-- (*cloisonne/tree.Tree).Keys -/
def x24 : XDecl := .code ⟨3, 
 (.seq (.ops [⟨(some 6), none, .move (.c (.slice none 0 0))⟩] (some [0, 1, 2]))
 (.seq (.ops [⟨(some 7), none, .move (.c (.slice none 0 0))⟩] (some [0, 1, 2, 7]))
 (.seq (.ops [⟨(some 12), none, .move (.t 0)⟩,
   ⟨(some 13), none, .move (.t 1)⟩,
   ⟨(some 14), none, .call (.c (.func (.func 20) #[] #[])) [(.t 12), (.t 13)]⟩,
   ⟨(some 11), none, .move (.t 14)⟩,
   ⟨(some 15), none, .extract (.t 11) 0⟩,
   ⟨(some 16), none, .extract (.t 11) 1⟩,
   ⟨(some 17), none, .extract (.t 11) 2⟩,
   ⟨(some 8), none, .move (.t 15)⟩,
   ⟨(some 9), none, .move (.t 16)⟩,
   ⟨(some 10), none, .move (.t 17)⟩] (some [0, 2, 7, 8, 10]))
 (.seq (.block 0
  (.loop
   (.seq (.seq (.ops [⟨(some 18), none, .move (.t 10)⟩,
     ⟨(some 19), none, .move (.t 18)⟩,
     ⟨(some 20), (some (19, true)), .move (.t 7)⟩,
     ⟨(some 21), (some (19, true)), .len (.t 20)⟩,
     ⟨(some 22), (some (19, true)), .move (.t 2)⟩,
     ⟨(some 23), (some (19, true)), .bin .lss 3 (.t 21) (.t 22)⟩,
     ⟨(some 24), none, .pick (.t 19) (.t 23) (.c (.bool false))⟩] (some [0, 2, 7, 8, 24]))
   (.cond (.t 24)
    .skip
    (.exit 0)))
   (.block 1
    (.seq (.ops [⟨(some 25), none, .move (.t 7)⟩,
      ⟨(some 26), none, .move (.t 8)⟩,
      ⟨(some 27), none, .buildSlice [(.string .empty)] 1 1 [(0, (.t 26))]⟩,
      ⟨(some 28), none, .append 1 16 [(.string .empty)] (.t 25) (.t 27)⟩,
      ⟨(some 7), none, .move (.t 28)⟩] (some [0, 2, 7, 8]))
    (.ops [⟨(some 30), none, .move (.t 0)⟩,
      ⟨(some 31), none, .move (.t 8)⟩,
      ⟨(some 32), none, .call (.c (.func (.func 21) #[] #[])) [(.t 30), (.t 31)]⟩,
      ⟨(some 29), none, .move (.t 32)⟩,
      ⟨(some 33), none, .extract (.t 29) 0⟩,
      ⟨(some 34), none, .extract (.t 29) 1⟩,
      ⟨(some 35), none, .extract (.t 29) 2⟩,
      ⟨(some 8), none, .move (.t 33)⟩,
      ⟨(some 10), none, .move (.t 35)⟩] (some [0, 2, 7, 8, 10])))))))
 (.seq (.ops [⟨(some 36), none, .move (.t 7)⟩,
   ⟨(some 6), none, .move (.t 36)⟩] (some [6]))
 .ret))))), [.tmp 6]⟩

/-- (*cloisonne/tree.Tree).Depth -/
def x25 : XDecl := .code ⟨1, 
 (.seq (.ops [⟨(some 2), none, .move (.c (.int .i64 0))⟩] (some [0]))
 (.seq (.seq (.ops [⟨(some 5), none, .move (.t 0)⟩,
   ⟨(some 6), none, .call (.c (.func (.func 42) #[] #[])) [(.t 5)]⟩,
   ⟨(some 7), none, .un .not (.t 6)⟩] (some [0, 7]))
 (.cond (.t 7)
  (.seq (.ops [⟨(some 2), none, .move (.c (.int .i64 0))⟩] (some [2]))
  .ret)
  .skip))
 (.seq (.ops [⟨(some 3), none, .move (.c (.int .i64 1))⟩] (some [0, 3]))
 (.seq (.seq (.opsd [(0, 0, ⟨(some 8), none, .move (.t 0)⟩),
   (1, 1, ⟨(some 9), none, .nilCheck (.t 8)⟩),
   (2, 3, ⟨(some 10), none, .fieldAddr 0 (.t 9)⟩),
   (3, 7, ⟨(some 11), none, .load false 1 (.t 10)⟩),
   (4, 0, ⟨(some 12), none, .move (.t 0)⟩),
   (5, 16, ⟨(some 13), none, .nilCheck (.t 12)⟩),
   (6, 48, ⟨(some 14), none, .fieldAddr 2 (.t 13)⟩),
   (7, 112, ⟨(some 15), none, .load false 1 (.t 14)⟩),
   (8, 255, ⟨(some 16), none, .indexAddr 3 (.t 11) (.t 15)⟩),
   (9, 511, ⟨(some 17), none, .load true 3 (.t 16)⟩),
   (10, 0, ⟨(some 4), none, .alloc [(.slice none 0 0), (.slice none 0 0), (.slice none 0 0)]⟩),
   (11, 2047, ⟨none, none, .store 3 (.t 4) (.t 17)⟩)] (some [0, 3, 4]))
 (.block 0
  (.loop
   (.seq (.seq (.ops [⟨(some 18), none, .call (.c (.func (.func 41) #[] #[])) [(.t 4)]⟩,
     ⟨(some 19), none, .un .not (.t 18)⟩] (some [0, 3, 4, 19]))
   (.cond (.t 19)
    .skip
    (.exit 0)))
   (.seq (.block 1
    (.ops [⟨(some 30), none, .move (.t 3)⟩,
      ⟨(some 31), none, .bin .add 3 (.t 30) (.c (.int .i64 1))⟩,
      ⟨(some 3), none, .move (.t 31)⟩] (some [0, 3, 4])))
   (.seq (.seq (.ops [⟨(some 32), none, .load true 3 (.t 4)⟩] (some [0, 3, 32]))
   (.ops [⟨(some 4), none, .alloc [(.slice none 0 0), (.slice none 0 0), (.slice none 0 0)]⟩,
     ⟨none, none, .store 3 (.t 4) (.t 32)⟩] (some [0, 3, 4])))
   (.opsd [(0, 0, ⟨(some 20), none, .move (.t 0)⟩),
     (1, 1, ⟨(some 21), none, .nilCheck (.t 20)⟩),
     (2, 3, ⟨(some 22), none, .fieldAddr 0 (.t 21)⟩),
     (3, 7, ⟨(some 23), none, .load false 1 (.t 22)⟩),
     (4, 0, ⟨(some 24), none, .fieldAddr 2 (.t 4)⟩),
     (5, 16, ⟨(some 25), none, .load false 1 (.t 24)⟩),
     (6, 48, ⟨(some 26), none, .indexAddr 1 (.t 25) (.c (.int .i64 0))⟩),
     (7, 112, ⟨(some 27), none, .load false 1 (.t 26)⟩),
     (8, 255, ⟨(some 28), none, .indexAddr 3 (.t 23) (.t 27)⟩),
     (9, 511, ⟨(some 29), none, .load true 3 (.t 28)⟩),
     (10, 1023, ⟨none, none, .store 3 (.t 4) (.t 29)⟩)] (some [0, 3, 4]))))))))
 (.seq (.ops [⟨(some 33), none, .move (.t 3)⟩,
   ⟨(some 2), none, .move (.t 33)⟩] (some [2]))
 .ret))))), [.tmp 2]⟩

/-- (*cloisonne/tree.Tree).Nodes -/
def x26 : XDecl := .code ⟨1, 
 (.seq (.ops [⟨(some 2), none, .move (.c (.int .i64 0))⟩] (some [0]))
 (.seq (.seq (.ops [⟨(some 3), none, .move (.t 0)⟩,
   ⟨(some 4), none, .isNil .ptr false (.t 3)⟩] (some [0, 4]))
 (.cond (.t 4)
  (.seq (.ops [⟨(some 2), none, .move (.c (.int .i64 0))⟩] (some [2]))
  .ret)
  .skip))
 (.seq (.opsr [⟨(some 5), none, .move (.t 0)⟩,
   ⟨(some 6), none, .nilCheck (.t 5)⟩,
   ⟨(some 7), none, .fieldAddr 0 (.t 6)⟩,
   ⟨(some 8), none, .load false 1 (.t 7)⟩,
   ⟨(some 9), none, .len (.t 8)⟩,
   ⟨(some 10), none, .move (.t 0)⟩,
   ⟨(some 11), none, .nilCheck (.t 10)⟩,
   ⟨(some 12), none, .fieldAddr 1 (.t 11)⟩,
   ⟨(some 13), none, .load false 1 (.t 12)⟩,
   ⟨(some 14), none, .len (.t 13)⟩,
   ⟨(some 15), none, .bin .sub 3 (.t 9) (.t 14)⟩,
   ⟨(some 2), none, .move (.t 15)⟩] (some [2]))
 .ret))), [.tmp 2]⟩

/-- cloisonne/tree.New -/
def x33 : XDecl := .code ⟨0, 
 (.seq (.ops [⟨(some 0), none, .move (.c (.pointer none))⟩] (some []))
 (.seq (.ops [⟨(some 1), none, .build [(.slice none 0 0), (.slice none 0 0), (.int .i64 0), (.int .i64 0)] [(0, 1), (1, 1), (2, 1), (3, 1)] [(2, (.c (.int .i64 (-1))))]⟩,
   ⟨(some 2), none, .box (.t 1)⟩,
   ⟨(some 0), none, .move (.t 2)⟩] (some [0]))
 .ret)), [.tmp 0]⟩

/-- (*cloisonne/tree.Tree).find -/
def x34 : XDecl := .code ⟨2, 
 (.seq (.ops [⟨(some 4), none, .move (.c (.pointer none))⟩,
   ⟨(some 5), none, .move (.c (.int .i64 0))⟩,
   ⟨(some 6), none, .move (.c (.bool false))⟩] (some [0, 1]))
 (.seq (.seq (.ops [⟨(some 10), none, .move (.t 0)⟩,
   ⟨(some 11), none, .isNil .ptr false (.t 10)⟩,
   ⟨(some 12), none, .move (.t 11)⟩,
   ⟨(some 13), (some (12, false)), .move (.t 0)⟩,
   ⟨(some 14), (some (12, false)), .nilCheck (.t 13)⟩,
   ⟨(some 15), (some (12, false)), .fieldAddr 2 (.t 14)⟩,
   ⟨(some 16), (some (12, false)), .load false 1 (.t 15)⟩,
   ⟨(some 17), (some (12, false)), .bin .lss 3 (.t 16) (.c (.int .i64 0))⟩,
   ⟨(some 18), none, .pick (.t 12) (.c (.bool true)) (.t 17)⟩] (some [0, 1, 18]))
 (.cond (.t 18)
  (.seq (.ops [⟨(some 4), none, .move (.c (.pointer none))⟩,
    ⟨(some 5), none, .move (.c (.int .i64 0))⟩,
    ⟨(some 6), none, .move (.c (.bool false))⟩] (some [4, 5, 6]))
  .ret)
  .skip))
 (.seq (.opsr [⟨(some 19), none, .move (.t 0)⟩,
   ⟨(some 20), none, .nilCheck (.t 19)⟩,
   ⟨(some 21), none, .fieldAddr 0 (.t 20)⟩,
   ⟨(some 22), none, .load false 1 (.t 21)⟩,
   ⟨(some 23), none, .move (.t 0)⟩,
   ⟨(some 24), none, .nilCheck (.t 23)⟩,
   ⟨(some 25), none, .fieldAddr 2 (.t 24)⟩,
   ⟨(some 26), none, .load false 1 (.t 25)⟩,
   ⟨(some 27), none, .indexAddr 3 (.t 22) (.t 26)⟩,
   ⟨(some 7), none, .move (.t 27)⟩] (some [0, 1, 7]))
 (.seq (.block 0
  (.loop
   (.seq (.seq (.ops [⟨(some 28), none, .move (.t 7)⟩,
     ⟨(some 29), none, .call (.c (.func (.func 41) #[] #[])) [(.t 28)]⟩,
     ⟨(some 30), none, .un .not (.t 29)⟩] (some [0, 1, 7, 30]))
   (.cond (.t 30)
    .skip
    (.exit 0)))
   (.block 1
    (.opsd [(0, 0, ⟨(some 31), none, .move (.t 0)⟩),
      (1, 1, ⟨(some 32), none, .nilCheck (.t 31)⟩),
      (2, 3, ⟨(some 33), none, .fieldAddr 0 (.t 32)⟩),
      (3, 7, ⟨(some 34), none, .load false 1 (.t 33)⟩),
      (4, 0, ⟨(some 35), none, .move (.t 7)⟩),
      (5, 16, ⟨(some 36), none, .nilCheck (.t 35)⟩),
      (6, 48, ⟨(some 37), none, .fieldAddr 2 (.t 36)⟩),
      (7, 112, ⟨(some 38), none, .load false 1 (.t 37)⟩),
      (8, 0, ⟨(some 39), none, .move (.t 7)⟩),
      (9, 0, ⟨(some 40), none, .move (.t 1)⟩),
      (10, 768, ⟨(some 41), none, .call (.c (.func (.func 51) #[] #[])) [(.t 39), (.t 40)]⟩),
      (11, 2032, ⟨(some 42), none, .indexAddr 1 (.t 38) (.t 41)⟩),
      (12, 4080, ⟨(some 43), none, .load false 1 (.t 42)⟩),
      (13, 8191, ⟨(some 44), none, .indexAddr 3 (.t 34) (.t 43)⟩),
      (14, 16383, ⟨(some 7), none, .move (.t 44)⟩)] (some [0, 1, 7]))))))
 (.seq (.ops [⟨(some 46), none, .move (.t 7)⟩,
   ⟨(some 47), none, .nilCheck (.t 46)⟩,
   ⟨(some 48), none, .fieldAddr 0 (.t 47)⟩,
   ⟨(some 49), none, .load false 1 (.t 48)⟩,
   ⟨(some 50), none, .move (.t 1)⟩,
   ⟨(some 51), none, .call (.c (.func (.func 52) #[] #[])) [(.t 49), (.t 50)]⟩,
   ⟨(some 45), none, .move (.t 51)⟩,
   ⟨(some 52), none, .extract (.t 45) 0⟩,
   ⟨(some 53), none, .extract (.t 45) 1⟩,
   ⟨(some 8), none, .move (.t 52)⟩,
   ⟨(some 9), none, .move (.t 53)⟩] (some [7, 8, 9]))
 (.seq (.ops [⟨(some 54), none, .move (.t 7)⟩,
   ⟨(some 55), none, .move (.t 8)⟩,
   ⟨(some 56), none, .move (.t 9)⟩,
   ⟨(some 4), none, .move (.t 54)⟩,
   ⟨(some 5), none, .move (.t 55)⟩,
   ⟨(some 6), none, .move (.t 56)⟩] (some [4, 5, 6]))
 .ret)))))), [.tmp 4, .tmp 5, .tmp 6]⟩

/-- (*cloisonne/tree.Tree).add -/
def x35 : XDecl := .code ⟨2, 
 (.seq (.ops [⟨(some 3), none, .box (.t 1)⟩,
   ⟨(some 4), none, .move (.c (.int .i64 0))⟩] (some [0, 3]))
 (.seq (.seq (.ops [⟨(some 7), none, .move (.t 0)⟩,
   ⟨(some 8), none, .nilCheck (.t 7)⟩,
   ⟨(some 9), none, .fieldAddr 1 (.t 8)⟩,
   ⟨(some 10), none, .load false 1 (.t 9)⟩,
   ⟨(some 11), none, .len (.t 10)⟩,
   ⟨(some 5), none, .move (.t 11)⟩] (some [0, 3, 5]))
 (.seq (.ops [⟨(some 12), none, .move (.t 5)⟩,
   ⟨(some 13), none, .bin .gtr 3 (.t 12) (.c (.int .i64 0))⟩] (some [0, 3, 5, 13]))
 (.cond (.t 13)
  (.seq (.ops [⟨(some 14), none, .move (.t 0)⟩,
    ⟨(some 15), none, .nilCheck (.t 14)⟩,
    ⟨(some 16), none, .fieldAddr 1 (.t 15)⟩,
    ⟨(some 17), none, .load false 1 (.t 16)⟩,
    ⟨(some 18), none, .move (.t 5)⟩,
    ⟨(some 19), none, .bin .sub 3 (.t 18) (.c (.int .i64 1))⟩,
    ⟨(some 20), none, .indexAddr 1 (.t 17) (.t 19)⟩,
    ⟨(some 21), none, .load false 1 (.t 20)⟩,
    ⟨(some 6), none, .move (.t 21)⟩] (some [0, 3, 5, 6]))
  (.seq (.ops [⟨(some 22), none, .move (.t 0)⟩,
    ⟨(some 23), none, .move (.t 0)⟩,
    ⟨(some 24), none, .nilCheck (.t 23)⟩,
    ⟨(some 25), none, .fieldAddr 1 (.t 24)⟩,
    ⟨(some 26), none, .load false 1 (.t 25)⟩,
    ⟨(some 27), none, .move (.t 5)⟩,
    ⟨(some 28), none, .bin .sub 3 (.t 27) (.c (.int .i64 1))⟩,
    ⟨(some 29), none, .slice 1 (.t 26) none (some (.t 28)) none⟩,
    ⟨(some 30), none, .nilCheck (.t 22)⟩,
    ⟨(some 31), none, .fieldAddr 1 (.t 30)⟩,
    ⟨none, none, .store 1 (.t 31) (.t 29)⟩] (some [0, 3, 6]))
  (.seq (.opsd [(0, 0, ⟨(some 32), none, .move (.t 0)⟩),
    (1, 1, ⟨(some 33), none, .nilCheck (.t 32)⟩),
    (2, 3, ⟨(some 34), none, .fieldAddr 0 (.t 33)⟩),
    (3, 7, ⟨(some 35), none, .load false 1 (.t 34)⟩),
    (4, 0, ⟨(some 36), none, .move (.t 6)⟩),
    (5, 0, ⟨(some 37), none, .load true 3 (.t 3)⟩),
    (6, 63, ⟨(some 38), none, .indexAddr 3 (.t 35) (.t 36)⟩),
    (7, 127, ⟨none, none, .store 3 (.t 38) (.t 37)⟩)] (some [6]))
  (.seq (.ops [⟨(some 39), none, .move (.t 6)⟩,
    ⟨(some 4), none, .move (.t 39)⟩] (some [4]))
  .ret))))
  .skip)))
 (.seq (.opsd [(0, 0, ⟨(some 40), none, .move (.t 0)⟩),
   (1, 0, ⟨(some 41), none, .move (.t 0)⟩),
   (2, 2, ⟨(some 42), none, .nilCheck (.t 41)⟩),
   (3, 6, ⟨(some 43), none, .fieldAddr 0 (.t 42)⟩),
   (4, 14, ⟨(some 44), none, .load false 1 (.t 43)⟩),
   (5, 0, ⟨(some 45), none, .load true 3 (.t 3)⟩),
   (6, 32, ⟨(some 46), none, .buildSlice [(.slice none 0 0), (.slice none 0 0), (.slice none 0 0)] 3 1 [(0, (.t 45))]⟩),
   (7, 126, ⟨(some 47), none, .append 3 72 [(.slice none 0 0), (.slice none 0 0), (.slice none 0 0)] (.t 44) (.t 46)⟩),
   (8, 255, ⟨(some 48), none, .nilCheck (.t 40)⟩),
   (9, 511, ⟨(some 49), none, .fieldAddr 0 (.t 48)⟩),
   (10, 1023, ⟨none, none, .store 1 (.t 49) (.t 47)⟩)] (some [0]))
 (.seq (.ops [⟨(some 50), none, .move (.t 0)⟩,
   ⟨(some 51), none, .nilCheck (.t 50)⟩,
   ⟨(some 52), none, .fieldAddr 0 (.t 51)⟩,
   ⟨(some 53), none, .load false 1 (.t 52)⟩,
   ⟨(some 54), none, .len (.t 53)⟩,
   ⟨(some 55), none, .bin .sub 3 (.t 54) (.c (.int .i64 1))⟩,
   ⟨(some 4), none, .move (.t 55)⟩] (some [4]))
 .ret)))), [.tmp 4]⟩

/-- (*cloisonne/tree.Tree).put -/
def x36 : XDecl := .code ⟨4, 
 (.seq (.ops [⟨(some 15), none, .move (.t 0)⟩,
   ⟨(some 16), none, .nilCheck (.t 15)⟩,
   ⟨(some 17), none, .fieldAddr 0 (.t 16)⟩,
   ⟨(some 18), none, .load false 1 (.t 17)⟩,
   ⟨(some 19), none, .move (.t 1)⟩,
   ⟨(some 20), none, .indexAddr 3 (.t 18) (.t 19)⟩,
   ⟨(some 8), none, .move (.t 20)⟩] (some [0, 1, 2, 3, 8]))
 (.seq (.seq (.ops [⟨(some 21), none, .move (.t 8)⟩,
   ⟨(some 22), none, .call (.c (.func (.func 41) #[] #[])) [(.t 21)]⟩] (some [0, 1, 2, 3, 8, 22]))
 (.cond (.t 22)
  (.seq (.ops [⟨(some 24), none, .move (.t 8)⟩,
    ⟨(some 25), none, .nilCheck (.t 24)⟩,
    ⟨(some 26), none, .fieldAddr 0 (.t 25)⟩,
    ⟨(some 27), none, .load false 1 (.t 26)⟩,
    ⟨(some 28), none, .move (.t 2)⟩,
    ⟨(some 29), none, .call (.c (.func (.func 52) #[] #[])) [(.t 27), (.t 28)]⟩,
    ⟨(some 23), none, .move (.t 29)⟩,
    ⟨(some 30), none, .extract (.t 23) 0⟩,
    ⟨(some 31), none, .extract (.t 23) 1⟩,
    ⟨(some 9), none, .move (.t 30)⟩,
    ⟨(some 10), none, .move (.t 31)⟩] (some [2, 3, 8, 9]))
  (.seq (.opsd [(0, 0, ⟨(some 32), none, .move (.t 8)⟩),
    (1, 0, ⟨(some 33), none, .move (.t 8)⟩),
    (2, 0, ⟨(some 34), none, .move (.t 8)⟩),
    (3, 4, ⟨(some 35), none, .nilCheck (.t 34)⟩),
    (4, 12, ⟨(some 36), none, .fieldAddr 0 (.t 35)⟩),
    (5, 28, ⟨(some 37), none, .load false 1 (.t 36)⟩),
    (6, 0, ⟨(some 38), none, .move (.t 9)⟩),
    (7, 0, ⟨(some 39), none, .move (.t 2)⟩),
    (8, 128, ⟨(some 40), none, .buildSlice [(.string .empty)] 1 1 [(0, (.t 39))]⟩),
    (10, 0, ⟨(some 42), none, .move (.t 8)⟩),
    (11, 1024, ⟨(some 43), none, .nilCheck (.t 42)⟩),
    (12, 3072, ⟨(some 44), none, .fieldAddr 1 (.t 43)⟩),
    (13, 7168, ⟨(some 45), none, .load false 1 (.t 44)⟩),
    (14, 0, ⟨(some 46), none, .move (.t 9)⟩),
    (15, 0, ⟨(some 47), none, .move (.t 3)⟩),
    (16, 32768, ⟨(some 48), none, .buildSlice [(.int .i64 0)] 1 1 [(0, (.t 47))]⟩),
    (9, 508, ⟨(some 41), none, .call (.c (.func (.func 53) #[] #[])) [(.t 37), (.t 38), (.t 40)]⟩),
    (17, 131068, ⟨(some 49), none, .call (.c (.func (.func 54) #[] #[])) [(.t 45), (.t 46), (.t 48)]⟩),
    (18, 262141, ⟨(some 50), none, .nilCheck (.t 32)⟩),
    (19, 524285, ⟨(some 51), none, .fieldAddr 0 (.t 50)⟩),
    (20, 1048573, ⟨none, none, .store 1 (.t 51) (.t 41)⟩),
    (21, 2097151, ⟨(some 52), none, .nilCheck (.t 33)⟩),
    (22, 4194303, ⟨(some 53), none, .fieldAddr 1 (.t 52)⟩),
    (23, 8388607, ⟨none, none, .store 1 (.t 53) (.t 49)⟩)] (some []))
  .ret))
  .skip))
 (.seq (.ops [⟨(some 54), none, .move (.t 8)⟩,
   ⟨(some 55), none, .move (.t 2)⟩,
   ⟨(some 56), none, .call (.c (.func (.func 51) #[] #[])) [(.t 54), (.t 55)]⟩,
   ⟨(some 11), none, .move (.t 56)⟩] (some [0, 1, 2, 3, 8, 11]))
 (.seq (.ops [⟨(some 57), none, .move (.t 8)⟩,
   ⟨(some 58), none, .nilCheck (.t 57)⟩,
   ⟨(some 59), none, .fieldAddr 2 (.t 58)⟩,
   ⟨(some 60), none, .load false 1 (.t 59)⟩,
   ⟨(some 61), none, .move (.t 11)⟩,
   ⟨(some 62), none, .indexAddr 1 (.t 60) (.t 61)⟩,
   ⟨(some 63), none, .load false 1 (.t 62)⟩,
   ⟨(some 12), none, .move (.t 63)⟩] (some [0, 1, 2, 3, 11, 12]))
 (.seq (.ops [⟨(some 64), none, .move (.t 0)⟩,
   ⟨(some 65), none, .move (.t 12)⟩,
   ⟨(some 66), none, .move (.t 2)⟩,
   ⟨(some 67), none, .move (.t 3)⟩,
   ⟨(some 68), none, .call (.c (.func (.func 36) #[] #[])) [(.t 64), (.t 65), (.t 66), (.t 67)]⟩] (some [0, 1, 11, 12]))
 (.seq (.ops [⟨(some 69), none, .move (.t 0)⟩,
   ⟨(some 70), none, .nilCheck (.t 69)⟩,
   ⟨(some 71), none, .fieldAddr 0 (.t 70)⟩,
   ⟨(some 72), none, .load false 1 (.t 71)⟩,
   ⟨(some 73), none, .move (.t 12)⟩,
   ⟨(some 74), none, .indexAddr 3 (.t 72) (.t 73)⟩,
   ⟨(some 75), none, .call (.c (.func (.func 37) #[] #[])) [(.t 74)]⟩,
   ⟨(some 76), none, .bin .gtr 3 (.t 75) (.c (.int .i64 4))⟩] (some [0, 1, 11, 12, 76]))
 (.cond (.t 76)
  (.seq (.ops [⟨(some 78), none, .move (.t 0)⟩,
    ⟨(some 79), none, .move (.t 12)⟩,
    ⟨(some 80), none, .call (.c (.func (.func 38) #[] #[])) [(.t 78), (.t 79)]⟩,
    ⟨(some 77), none, .move (.t 80)⟩,
    ⟨(some 81), none, .extract (.t 77) 0⟩,
    ⟨(some 82), none, .extract (.t 77) 1⟩,
    ⟨(some 13), none, .move (.t 81)⟩,
    ⟨(some 14), none, .move (.t 82)⟩] (some [0, 1, 11, 13, 14]))
  (.seq (.ops [⟨(some 83), none, .move (.t 0)⟩,
    ⟨(some 84), none, .nilCheck (.t 83)⟩,
    ⟨(some 85), none, .fieldAddr 0 (.t 84)⟩,
    ⟨(some 86), none, .load false 1 (.t 85)⟩,
    ⟨(some 87), none, .move (.t 1)⟩,
    ⟨(some 88), none, .indexAddr 3 (.t 86) (.t 87)⟩,
    ⟨(some 8), none, .move (.t 88)⟩] (some [8, 11, 13, 14]))
  (.opsd [(0, 0, ⟨(some 89), none, .move (.t 8)⟩),
    (1, 0, ⟨(some 90), none, .move (.t 8)⟩),
    (2, 0, ⟨(some 91), none, .move (.t 8)⟩),
    (3, 4, ⟨(some 92), none, .nilCheck (.t 91)⟩),
    (4, 12, ⟨(some 93), none, .fieldAddr 0 (.t 92)⟩),
    (5, 28, ⟨(some 94), none, .load false 1 (.t 93)⟩),
    (6, 0, ⟨(some 95), none, .move (.t 11)⟩),
    (7, 0, ⟨(some 96), none, .move (.t 14)⟩),
    (8, 128, ⟨(some 97), none, .buildSlice [(.string .empty)] 1 1 [(0, (.t 96))]⟩),
    (10, 0, ⟨(some 99), none, .move (.t 8)⟩),
    (11, 1024, ⟨(some 100), none, .nilCheck (.t 99)⟩),
    (12, 3072, ⟨(some 101), none, .fieldAddr 2 (.t 100)⟩),
    (13, 7168, ⟨(some 102), none, .load false 1 (.t 101)⟩),
    (14, 0, ⟨(some 103), none, .move (.t 11)⟩),
    (15, 16384, ⟨(some 104), none, .bin .add 3 (.t 103) (.c (.int .i64 1))⟩),
    (16, 0, ⟨(some 105), none, .move (.t 13)⟩),
    (17, 65536, ⟨(some 106), none, .buildSlice [(.int .i64 0)] 1 1 [(0, (.t 105))]⟩),
    (9, 508, ⟨(some 98), none, .call (.c (.func (.func 53) #[] #[])) [(.t 94), (.t 95), (.t 97)]⟩),
    (18, 262140, ⟨(some 107), none, .call (.c (.func (.func 54) #[] #[])) [(.t 102), (.t 104), (.t 106)]⟩),
    (19, 524285, ⟨(some 108), none, .nilCheck (.t 89)⟩),
    (20, 1048573, ⟨(some 109), none, .fieldAddr 0 (.t 108)⟩),
    (21, 2097149, ⟨none, none, .store 1 (.t 109) (.t 98)⟩),
    (22, 4194303, ⟨(some 110), none, .nilCheck (.t 90)⟩),
    (23, 8388607, ⟨(some 111), none, .fieldAddr 2 (.t 110)⟩),
    (24, 16777215, ⟨none, none, .store 1 (.t 111) (.t 107)⟩)] (some []))))
  .skip))))))), []⟩

/-- (*cloisonne/tree.node).size -/
def x37 : XDecl := .code ⟨1, 
 (.seq (.ops [⟨(some 2), none, .move (.c (.int .i64 0))⟩] (some [0]))
 (.seq (.seq (.ops [⟨(some 3), none, .move (.t 0)⟩,
   ⟨(some 4), none, .call (.c (.func (.func 41) #[] #[])) [(.t 3)]⟩] (some [0, 4]))
 (.cond (.t 4)
  (.seq (.ops [⟨(some 5), none, .move (.t 0)⟩,
    ⟨(some 6), none, .nilCheck (.t 5)⟩,
    ⟨(some 7), none, .fieldAddr 0 (.t 6)⟩,
    ⟨(some 8), none, .load false 1 (.t 7)⟩,
    ⟨(some 9), none, .len (.t 8)⟩,
    ⟨(some 2), none, .move (.t 9)⟩] (some [2]))
  .ret)
  .skip))
 (.seq (.ops [⟨(some 10), none, .move (.t 0)⟩,
   ⟨(some 11), none, .nilCheck (.t 10)⟩,
   ⟨(some 12), none, .fieldAddr 2 (.t 11)⟩,
   ⟨(some 13), none, .load false 1 (.t 12)⟩,
   ⟨(some 14), none, .len (.t 13)⟩,
   ⟨(some 2), none, .move (.t 14)⟩] (some [2]))
 .ret))), [.tmp 2]⟩

/-- (*cloisonne/tree.Tree).split -/
def x38 : XDecl := .code ⟨2, 
 (.seq (.ops [⟨(some 4), none, .move (.c (.int .i64 0))⟩,
   ⟨(some 5), none, .move (.c (.string .empty))⟩] (some [0, 1]))
 (.seq (.ops [⟨(some 10), none, .move (.t 0)⟩,
   ⟨(some 11), none, .nilCheck (.t 10)⟩,
   ⟨(some 12), none, .fieldAddr 0 (.t 11)⟩,
   ⟨(some 13), none, .load false 1 (.t 12)⟩,
   ⟨(some 14), none, .move (.t 1)⟩,
   ⟨(some 15), none, .indexAddr 3 (.t 13) (.t 14)⟩,
   ⟨(some 16), none, .load true 3 (.t 15)⟩,
   ⟨(some 6), none, .alloc [(.slice none 0 0), (.slice none 0 0), (.slice none 0 0)]⟩,
   ⟨none, none, .store 3 (.t 6) (.t 16)⟩] (some [0, 1, 6]))
 (.seq (.ops [⟨(some 17), none, .call (.c (.func (.func 37) #[] #[])) [(.t 6)]⟩,
   ⟨(some 18), none, .bin .quo 3 (.t 17) (.c (.int .i64 2))⟩,
   ⟨(some 7), none, .move (.t 18)⟩] (some [0, 1, 6, 7]))
 (.seq (.seq (.ops [⟨(some 19), none, .call (.c (.func (.func 41) #[] #[])) [(.t 6)]⟩] (some [0, 1, 6, 7, 19]))
 (.cond (.t 19)
  (.seq (.opsd [(0, 0, ⟨(some 20), none, .move (.t 0)⟩),
    (1, 0, ⟨(some 21), none, .fieldAddr 0 (.t 6)⟩),
    (2, 2, ⟨(some 22), none, .load false 1 (.t 21)⟩),
    (3, 0, ⟨(some 23), none, .move (.t 7)⟩),
    (4, 14, ⟨(some 24), none, .slice 1 (.t 22) (some (.t 23)) none none⟩),
    (6, 0, ⟨(some 26), none, .fieldAddr 1 (.t 6)⟩),
    (7, 64, ⟨(some 27), none, .load false 1 (.t 26)⟩),
    (8, 0, ⟨(some 28), none, .move (.t 7)⟩),
    (9, 448, ⟨(some 29), none, .slice 1 (.t 27) (some (.t 28)) none none⟩),
    (5, 30, ⟨(some 25), none, .call (.c (.func (.func 55) #[] #[])) [(.t 24)]⟩),
    (10, 1022, ⟨(some 30), none, .call (.c (.func (.func 56) #[] #[])) [(.t 29)]⟩),
    (11, 2046, ⟨(some 31), none, .build [(.slice none 0 0), (.slice none 0 0), (.slice none 0 0)] [(0, 1), (1, 1), (2, 1)] [(0, (.t 25)), (1, (.t 30))]⟩),
    (12, 4095, ⟨(some 32), none, .call (.c (.func (.func 35) #[] #[])) [(.t 20), (.t 31)]⟩),
    (13, 8191, ⟨(some 8), none, .move (.t 32)⟩)] (some [0, 1, 6, 7, 8]))
  (.seq (.opsd [(0, 0, ⟨(some 33), none, .move (.t 0)⟩),
    (1, 1, ⟨(some 34), none, .nilCheck (.t 33)⟩),
    (2, 3, ⟨(some 35), none, .fieldAddr 0 (.t 34)⟩),
    (3, 7, ⟨(some 36), none, .load false 1 (.t 35)⟩),
    (4, 0, ⟨(some 37), none, .move (.t 1)⟩),
    (5, 0, ⟨(some 38), none, .move (.t 0)⟩),
    (6, 32, ⟨(some 39), none, .nilCheck (.t 38)⟩),
    (7, 96, ⟨(some 40), none, .fieldAddr 0 (.t 39)⟩),
    (8, 224, ⟨(some 41), none, .load false 1 (.t 40)⟩),
    (9, 0, ⟨(some 42), none, .move (.t 1)⟩),
    (10, 0, ⟨(some 43), none, .fieldAddr 0 (.t 6)⟩),
    (11, 1024, ⟨(some 44), none, .load false 1 (.t 43)⟩),
    (12, 0, ⟨(some 45), none, .move (.t 7)⟩),
    (13, 0, ⟨(some 46), none, .move (.t 7)⟩),
    (14, 15360, ⟨(some 47), none, .slice 1 (.t 44) none (some (.t 45)) (some (.t 46))⟩),
    (15, 0, ⟨(some 48), none, .fieldAddr 1 (.t 6)⟩),
    (16, 32768, ⟨(some 49), none, .load false 1 (.t 48)⟩),
    (17, 0, ⟨(some 50), none, .move (.t 7)⟩),
    (18, 0, ⟨(some 51), none, .move (.t 7)⟩),
    (19, 491520, ⟨(some 52), none, .slice 1 (.t 49) none (some (.t 50)) (some (.t 51))⟩),
    (20, 130559, ⟨(some 53), none, .indexAddr 3 (.t 36) (.t 37)⟩),
    (21, 1179135, ⟨(some 54), none, .fieldAddr 0 (.t 53)⟩),
    (22, 3276287, ⟨none, none, .store 1 (.t 54) (.t 47)⟩),
    (23, 8388607, ⟨(some 55), none, .indexAddr 3 (.t 41) (.t 42)⟩),
    (24, 16777215, ⟨(some 56), none, .fieldAddr 1 (.t 55)⟩),
    (25, 33554431, ⟨none, none, .store 1 (.t 56) (.t 52)⟩)] (some [6, 7, 8]))
  (.seq (.opsr [⟨(some 57), none, .move (.t 8)⟩,
    ⟨(some 58), none, .fieldAddr 0 (.t 6)⟩,
    ⟨(some 59), none, .load false 1 (.t 58)⟩,
    ⟨(some 60), none, .move (.t 7)⟩,
    ⟨(some 61), none, .indexAddr 1 (.t 59) (.t 60)⟩,
    ⟨(some 62), none, .load false 1 (.t 61)⟩,
    ⟨(some 4), none, .move (.t 57)⟩,
    ⟨(some 5), none, .move (.t 62)⟩] (some [4, 5]))
  .ret)))
  .skip))
 (.seq (.opsd [(0, 0, ⟨(some 63), none, .move (.t 0)⟩),
   (1, 0, ⟨(some 64), none, .fieldAddr 0 (.t 6)⟩),
   (2, 2, ⟨(some 65), none, .load false 1 (.t 64)⟩),
   (3, 0, ⟨(some 66), none, .move (.t 7)⟩),
   (4, 14, ⟨(some 67), none, .slice 1 (.t 65) (some (.t 66)) none none⟩),
   (6, 0, ⟨(some 69), none, .fieldAddr 2 (.t 6)⟩),
   (7, 64, ⟨(some 70), none, .load false 1 (.t 69)⟩),
   (8, 0, ⟨(some 71), none, .move (.t 7)⟩),
   (9, 448, ⟨(some 72), none, .slice 1 (.t 70) (some (.t 71)) none none⟩),
   (5, 30, ⟨(some 68), none, .call (.c (.func (.func 55) #[] #[])) [(.t 67)]⟩),
   (10, 1022, ⟨(some 73), none, .call (.c (.func (.func 56) #[] #[])) [(.t 72)]⟩),
   (11, 2046, ⟨(some 74), none, .build [(.slice none 0 0), (.slice none 0 0), (.slice none 0 0)] [(0, 1), (1, 1), (2, 1)] [(0, (.t 68)), (2, (.t 73))]⟩),
   (12, 4095, ⟨(some 75), none, .call (.c (.func (.func 35) #[] #[])) [(.t 63), (.t 74)]⟩),
   (13, 8191, ⟨(some 9), none, .move (.t 75)⟩)] (some [0, 1, 6, 7, 9]))
 (.seq (.opsd [(0, 0, ⟨(some 76), none, .move (.t 0)⟩),
   (1, 1, ⟨(some 77), none, .nilCheck (.t 76)⟩),
   (2, 3, ⟨(some 78), none, .fieldAddr 0 (.t 77)⟩),
   (3, 7, ⟨(some 79), none, .load false 1 (.t 78)⟩),
   (4, 0, ⟨(some 80), none, .move (.t 1)⟩),
   (5, 0, ⟨(some 81), none, .move (.t 0)⟩),
   (6, 32, ⟨(some 82), none, .nilCheck (.t 81)⟩),
   (7, 96, ⟨(some 83), none, .fieldAddr 0 (.t 82)⟩),
   (8, 224, ⟨(some 84), none, .load false 1 (.t 83)⟩),
   (9, 0, ⟨(some 85), none, .move (.t 1)⟩),
   (10, 0, ⟨(some 86), none, .fieldAddr 0 (.t 6)⟩),
   (11, 1024, ⟨(some 87), none, .load false 1 (.t 86)⟩),
   (12, 0, ⟨(some 88), none, .move (.t 7)⟩),
   (13, 4096, ⟨(some 89), none, .bin .sub 3 (.t 88) (.c (.int .i64 1))⟩),
   (14, 0, ⟨(some 90), none, .move (.t 7)⟩),
   (15, 16384, ⟨(some 91), none, .bin .sub 3 (.t 90) (.c (.int .i64 1))⟩),
   (16, 64512, ⟨(some 92), none, .slice 1 (.t 87) none (some (.t 89)) (some (.t 91))⟩),
   (17, 0, ⟨(some 93), none, .fieldAddr 2 (.t 6)⟩),
   (18, 131072, ⟨(some 94), none, .load false 1 (.t 93)⟩),
   (19, 0, ⟨(some 95), none, .move (.t 7)⟩),
   (20, 0, ⟨(some 96), none, .move (.t 7)⟩),
   (21, 1966080, ⟨(some 97), none, .slice 1 (.t 94) none (some (.t 95)) (some (.t 96))⟩),
   (22, 523775, ⟨(some 98), none, .indexAddr 3 (.t 79) (.t 80)⟩),
   (23, 4718079, ⟨(some 99), none, .fieldAddr 0 (.t 98)⟩),
   (24, 13106687, ⟨none, none, .store 1 (.t 99) (.t 92)⟩),
   (25, 33554431, ⟨(some 100), none, .indexAddr 3 (.t 84) (.t 85)⟩),
   (26, 67108863, ⟨(some 101), none, .fieldAddr 2 (.t 100)⟩),
   (27, 134217727, ⟨none, none, .store 1 (.t 101) (.t 97)⟩)] (some [6, 7, 9]))
 (.seq (.opsr [⟨(some 102), none, .move (.t 9)⟩,
   ⟨(some 103), none, .fieldAddr 0 (.t 6)⟩,
   ⟨(some 104), none, .load false 1 (.t 103)⟩,
   ⟨(some 105), none, .move (.t 7)⟩,
   ⟨(some 106), none, .bin .sub 3 (.t 105) (.c (.int .i64 1))⟩,
   ⟨(some 107), none, .indexAddr 1 (.t 104) (.t 106)⟩,
   ⟨(some 108), none, .load false 1 (.t 107)⟩,
   ⟨(some 4), none, .move (.t 102)⟩,
   ⟨(some 5), none, .move (.t 108)⟩] (some [4, 5]))
 .ret))))))), [.tmp 4, .tmp 5]⟩

/-- (*cloisonne/tree.Tree).del -/
def x39 : XDecl := .code ⟨3, 
 (.seq (.ops [⟨(some 10), none, .move (.t 0)⟩,
   ⟨(some 11), none, .nilCheck (.t 10)⟩,
   ⟨(some 12), none, .fieldAddr 0 (.t 11)⟩,
   ⟨(some 13), none, .load false 1 (.t 12)⟩,
   ⟨(some 14), none, .move (.t 1)⟩,
   ⟨(some 15), none, .indexAddr 3 (.t 13) (.t 14)⟩,
   ⟨(some 6), none, .move (.t 15)⟩] (some [0, 2, 6]))
 (.seq (.seq (.ops [⟨(some 16), none, .move (.t 6)⟩,
   ⟨(some 17), none, .call (.c (.func (.func 41) #[] #[])) [(.t 16)]⟩] (some [0, 2, 6, 17]))
 (.cond (.t 17)
  (.seq (.ops [⟨(some 19), none, .move (.t 6)⟩,
    ⟨(some 20), none, .nilCheck (.t 19)⟩,
    ⟨(some 21), none, .fieldAddr 0 (.t 20)⟩,
    ⟨(some 22), none, .load false 1 (.t 21)⟩,
    ⟨(some 23), none, .move (.t 2)⟩,
    ⟨(some 24), none, .call (.c (.func (.func 52) #[] #[])) [(.t 22), (.t 23)]⟩,
    ⟨(some 18), none, .move (.t 24)⟩,
    ⟨(some 25), none, .extract (.t 18) 0⟩,
    ⟨(some 26), none, .extract (.t 18) 1⟩,
    ⟨(some 7), none, .move (.t 25)⟩,
    ⟨(some 8), none, .move (.t 26)⟩] (some [6, 7]))
  (.seq (.opsd [(0, 0, ⟨(some 27), none, .move (.t 6)⟩),
    (1, 0, ⟨(some 28), none, .move (.t 6)⟩),
    (2, 0, ⟨(some 29), none, .move (.t 6)⟩),
    (3, 4, ⟨(some 30), none, .nilCheck (.t 29)⟩),
    (4, 12, ⟨(some 31), none, .fieldAddr 0 (.t 30)⟩),
    (5, 28, ⟨(some 32), none, .load false 1 (.t 31)⟩),
    (6, 0, ⟨(some 33), none, .move (.t 7)⟩),
    (7, 0, ⟨(some 34), none, .move (.t 7)⟩),
    (8, 128, ⟨(some 35), none, .bin .add 3 (.t 34) (.c (.int .i64 1))⟩),
    (10, 0, ⟨(some 37), none, .move (.t 6)⟩),
    (11, 1024, ⟨(some 38), none, .nilCheck (.t 37)⟩),
    (12, 3072, ⟨(some 39), none, .fieldAddr 1 (.t 38)⟩),
    (13, 7168, ⟨(some 40), none, .load false 1 (.t 39)⟩),
    (14, 0, ⟨(some 41), none, .move (.t 7)⟩),
    (15, 0, ⟨(some 42), none, .move (.t 7)⟩),
    (16, 32768, ⟨(some 43), none, .bin .add 3 (.t 42) (.c (.int .i64 1))⟩),
    (9, 508, ⟨(some 36), none, .call (.c (.func (.func 57) #[] #[])) [(.t 32), (.t 33), (.t 35)]⟩),
    (17, 131068, ⟨(some 44), none, .call (.c (.func (.func 58) #[] #[])) [(.t 40), (.t 41), (.t 43)]⟩),
    (18, 262141, ⟨(some 45), none, .nilCheck (.t 27)⟩),
    (19, 524285, ⟨(some 46), none, .fieldAddr 0 (.t 45)⟩),
    (20, 1048573, ⟨none, none, .store 1 (.t 46) (.t 36)⟩),
    (21, 2097151, ⟨(some 47), none, .nilCheck (.t 28)⟩),
    (22, 4194303, ⟨(some 48), none, .fieldAddr 1 (.t 47)⟩),
    (23, 8388607, ⟨none, none, .store 1 (.t 48) (.t 44)⟩)] (some []))
  .ret))
  .skip))
 (.seq (.ops [⟨(some 49), none, .move (.t 6)⟩,
   ⟨(some 50), none, .move (.t 2)⟩,
   ⟨(some 51), none, .call (.c (.func (.func 51) #[] #[])) [(.t 49), (.t 50)]⟩,
   ⟨(some 9), none, .move (.t 51)⟩] (some [0, 2, 6, 9]))
 (.seq (.ops [⟨(some 52), none, .move (.t 0)⟩,
   ⟨(some 53), none, .move (.t 6)⟩,
   ⟨(some 54), none, .nilCheck (.t 53)⟩,
   ⟨(some 55), none, .fieldAddr 2 (.t 54)⟩,
   ⟨(some 56), none, .load false 1 (.t 55)⟩,
   ⟨(some 57), none, .move (.t 9)⟩,
   ⟨(some 58), none, .indexAddr 1 (.t 56) (.t 57)⟩,
   ⟨(some 59), none, .load false 1 (.t 58)⟩,
   ⟨(some 60), none, .move (.t 2)⟩,
   ⟨(some 61), none, .call (.c (.func (.func 39) #[] #[])) [(.t 52), (.t 59), (.t 60)]⟩] (some [0, 6, 9]))
 (.seq (.opsd [(0, 0, ⟨(some 62), none, .move (.t 0)⟩),
   (1, 1, ⟨(some 63), none, .nilCheck (.t 62)⟩),
   (2, 3, ⟨(some 64), none, .fieldAddr 0 (.t 63)⟩),
   (3, 7, ⟨(some 65), none, .load false 1 (.t 64)⟩),
   (4, 0, ⟨(some 66), none, .move (.t 6)⟩),
   (5, 16, ⟨(some 67), none, .nilCheck (.t 66)⟩),
   (6, 48, ⟨(some 68), none, .fieldAddr 2 (.t 67)⟩),
   (7, 112, ⟨(some 69), none, .load false 1 (.t 68)⟩),
   (8, 0, ⟨(some 70), none, .move (.t 9)⟩),
   (9, 496, ⟨(some 71), none, .indexAddr 1 (.t 69) (.t 70)⟩),
   (10, 1008, ⟨(some 72), none, .load false 1 (.t 71)⟩),
   (11, 2047, ⟨(some 73), none, .indexAddr 3 (.t 65) (.t 72)⟩),
   (12, 4095, ⟨(some 74), none, .call (.c (.func (.func 37) #[] #[])) [(.t 73)]⟩),
   (13, 8191, ⟨(some 75), none, .bin .lss 3 (.t 74) (.c (.int .i64 2))⟩)] (some [0, 6, 9, 75]))
 (.cond (.t 75)
  (.ops [⟨(some 76), none, .move (.t 0)⟩,
    ⟨(some 77), none, .move (.t 6)⟩,
    ⟨(some 78), none, .move (.t 9)⟩,
    ⟨(some 79), none, .calcB .max [3, 3] 3 [(.t 78), (.c (.int .i64 1))]⟩,
    ⟨(some 80), none, .call (.c (.func (.func 59) #[] #[])) [(.t 76), (.t 77), (.t 79)]⟩] (some []))
  .skip)))))), []⟩

/-- (*cloisonne/tree.Tree).drop -/
def x40 : XDecl := .code ⟨2, 
 (.seq (.ops [⟨(some 4), none, .move (.t 0)⟩,
   ⟨(some 5), none, .nilCheck (.t 4)⟩,
   ⟨(some 6), none, .fieldAddr 0 (.t 5)⟩,
   ⟨(some 7), none, .load false 1 (.t 6)⟩,
   ⟨(some 8), none, .move (.t 1)⟩,
   ⟨(some 9), none, .build [(.slice none 0 0), (.slice none 0 0), (.slice none 0 0)] [(0, 1), (1, 1), (2, 1)] []⟩,
   ⟨(some 10), none, .indexAddr 3 (.t 7) (.t 8)⟩,
   ⟨none, none, .store 3 (.t 10) (.t 9)⟩] (some [0, 1]))
 (.ops [⟨(some 11), none, .move (.t 0)⟩,
   ⟨(some 12), none, .move (.t 0)⟩,
   ⟨(some 13), none, .nilCheck (.t 12)⟩,
   ⟨(some 14), none, .fieldAddr 1 (.t 13)⟩,
   ⟨(some 15), none, .load false 1 (.t 14)⟩,
   ⟨(some 16), none, .move (.t 1)⟩,
   ⟨(some 17), none, .buildSlice [(.int .i64 0)] 1 1 [(0, (.t 16))]⟩,
   ⟨(some 18), none, .append 1 8 [(.int .i64 0)] (.t 15) (.t 17)⟩,
   ⟨(some 19), none, .nilCheck (.t 11)⟩,
   ⟨(some 20), none, .fieldAddr 1 (.t 19)⟩,
   ⟨none, none, .store 1 (.t 20) (.t 18)⟩] (some []))), []⟩

/-- (*cloisonne/tree.node).leaf -/
def x41 : XDecl := .code ⟨1, 
 (.seq (.ops [⟨(some 2), none, .move (.c (.bool false))⟩] (some [0]))
 (.seq (.ops [⟨(some 3), none, .move (.t 0)⟩,
   ⟨(some 4), none, .nilCheck (.t 3)⟩,
   ⟨(some 5), none, .fieldAddr 2 (.t 4)⟩,
   ⟨(some 6), none, .load false 1 (.t 5)⟩,
   ⟨(some 7), none, .len (.t 6)⟩,
   ⟨(some 8), none, .bin .eql 3 (.t 7) (.c (.int .i64 0))⟩,
   ⟨(some 2), none, .move (.t 8)⟩] (some [2]))
 .ret)), [.tmp 2]⟩

/-- (*cloisonne/tree.Tree).some -/
def x42 : XDecl := .code ⟨1, 
 (.seq (.ops [⟨(some 2), none, .move (.c (.bool false))⟩] (some [0]))
 (.seq (.ops [⟨(some 3), none, .move (.t 0)⟩,
   ⟨(some 4), none, .isNil .ptr true (.t 3)⟩,
   ⟨(some 5), none, .move (.t 4)⟩,
   ⟨(some 6), (some (5, true)), .move (.t 0)⟩,
   ⟨(some 7), (some (5, true)), .nilCheck (.t 6)⟩,
   ⟨(some 8), (some (5, true)), .fieldAddr 2 (.t 7)⟩,
   ⟨(some 9), (some (5, true)), .load false 1 (.t 8)⟩,
   ⟨(some 10), (some (5, true)), .bin .geq 3 (.t 9) (.c (.int .i64 0))⟩,
   ⟨(some 11), none, .pick (.t 5) (.t 10) (.c (.bool false))⟩,
   ⟨(some 2), none, .move (.t 11)⟩] (some [2]))
 .ret)), [.tmp 2]⟩

/-- (*cloisonne/tree.Tree).first -/
def x43 : XDecl := .code ⟨4, 
 (.seq (.ops [⟨(some 8), none, .move (.c (.string .empty))⟩,
   ⟨(some 9), none, .move (.c (.int .i64 0))⟩,
   ⟨(some 10), none, .move (.c (.bool false))⟩] (some [0, 1, 2, 3]))
 (.seq (.ops [⟨(some 18), none, .move (.t 0)⟩,
   ⟨(some 19), none, .nilCheck (.t 18)⟩,
   ⟨(some 20), none, .fieldAddr 0 (.t 19)⟩,
   ⟨(some 21), none, .load false 1 (.t 20)⟩,
   ⟨(some 22), none, .move (.t 1)⟩,
   ⟨(some 23), none, .indexAddr 3 (.t 21) (.t 22)⟩,
   ⟨(some 11), none, .move (.t 23)⟩] (some [0, 2, 3, 11]))
 (.seq (.seq (.ops [⟨(some 24), none, .move (.t 11)⟩,
   ⟨(some 25), none, .call (.c (.func (.func 41) #[] #[])) [(.t 24)]⟩] (some [0, 2, 3, 11, 25]))
 (.cond (.t 25)
  (.seq (.ops [⟨(some 27), none, .move (.t 11)⟩,
    ⟨(some 28), none, .nilCheck (.t 27)⟩,
    ⟨(some 29), none, .fieldAddr 0 (.t 28)⟩,
    ⟨(some 30), none, .load false 1 (.t 29)⟩,
    ⟨(some 31), none, .move (.t 2)⟩,
    ⟨(some 32), none, .call (.c (.func (.func 52) #[] #[])) [(.t 30), (.t 31)]⟩,
    ⟨(some 26), none, .move (.t 32)⟩,
    ⟨(some 33), none, .extract (.t 26) 0⟩,
    ⟨(some 34), none, .extract (.t 26) 1⟩,
    ⟨(some 12), none, .move (.t 33)⟩,
    ⟨(some 13), none, .move (.t 34)⟩] (some [3, 11, 12, 13]))
  (.seq (.seq (.ops [⟨(some 35), none, .move (.t 13)⟩,
    ⟨(some 36), none, .move (.t 35)⟩,
    ⟨(some 37), (some (36, true)), .move (.t 3)⟩,
    ⟨(some 38), none, .pick (.t 36) (.t 37) (.c (.bool false))⟩] (some [11, 12, 38]))
  (.cond (.t 38)
   (.ops [⟨(some 39), none, .move (.t 12)⟩,
     ⟨(some 40), none, .bin .add 3 (.t 39) (.c (.int .i64 1))⟩,
     ⟨(some 12), none, .move (.t 40)⟩] (some [11, 12]))
   .skip))
  (.seq (.seq (.ops [⟨(some 41), none, .move (.t 12)⟩,
    ⟨(some 42), none, .move (.t 11)⟩,
    ⟨(some 43), none, .nilCheck (.t 42)⟩,
    ⟨(some 44), none, .fieldAddr 0 (.t 43)⟩,
    ⟨(some 45), none, .load false 1 (.t 44)⟩,
    ⟨(some 46), none, .len (.t 45)⟩,
    ⟨(some 47), none, .bin .geq 3 (.t 41) (.t 46)⟩] (some [11, 12, 47]))
  (.cond (.t 47)
   (.seq (.ops [⟨(some 8), none, .move (.c (.string .empty))⟩,
     ⟨(some 9), none, .move (.c (.int .i64 0))⟩,
     ⟨(some 10), none, .move (.c (.bool false))⟩] (some [8, 9, 10]))
   .ret)
   .skip))
  (.seq (.opsr [⟨(some 48), none, .move (.t 11)⟩,
    ⟨(some 49), none, .nilCheck (.t 48)⟩,
    ⟨(some 50), none, .fieldAddr 0 (.t 49)⟩,
    ⟨(some 51), none, .load false 1 (.t 50)⟩,
    ⟨(some 52), none, .move (.t 12)⟩,
    ⟨(some 53), none, .indexAddr 1 (.t 51) (.t 52)⟩,
    ⟨(some 54), none, .load false 1 (.t 53)⟩,
    ⟨(some 55), none, .move (.t 11)⟩,
    ⟨(some 56), none, .nilCheck (.t 55)⟩,
    ⟨(some 57), none, .fieldAddr 1 (.t 56)⟩,
    ⟨(some 58), none, .load false 1 (.t 57)⟩,
    ⟨(some 59), none, .move (.t 12)⟩,
    ⟨(some 60), none, .indexAddr 1 (.t 58) (.t 59)⟩,
    ⟨(some 61), none, .load false 1 (.t 60)⟩,
    ⟨(some 8), none, .move (.t 54)⟩,
    ⟨(some 9), none, .move (.t 61)⟩,
    ⟨(some 10), none, .move (.c (.bool true))⟩] (some [8, 9, 10]))
  .ret))))
  .skip))
 (.seq (.ops [⟨(some 62), none, .move (.t 11)⟩,
   ⟨(some 63), none, .move (.t 2)⟩,
   ⟨(some 64), none, .call (.c (.func (.func 51) #[] #[])) [(.t 62), (.t 63)]⟩,
   ⟨(some 14), none, .move (.t 64)⟩] (some [0, 2, 3, 11, 14]))
 (.seq (.seq (.ops [⟨(some 66), none, .move (.t 0)⟩,
   ⟨(some 67), none, .move (.t 11)⟩,
   ⟨(some 68), none, .nilCheck (.t 67)⟩,
   ⟨(some 69), none, .fieldAddr 2 (.t 68)⟩,
   ⟨(some 70), none, .load false 1 (.t 69)⟩,
   ⟨(some 71), none, .move (.t 14)⟩,
   ⟨(some 72), none, .indexAddr 1 (.t 70) (.t 71)⟩,
   ⟨(some 73), none, .load false 1 (.t 72)⟩,
   ⟨(some 74), none, .move (.t 2)⟩,
   ⟨(some 75), none, .move (.t 3)⟩,
   ⟨(some 76), none, .call (.c (.func (.func 43) #[] #[])) [(.t 66), (.t 73), (.t 74), (.t 75)]⟩,
   ⟨(some 65), none, .move (.t 76)⟩,
   ⟨(some 77), none, .extract (.t 65) 0⟩,
   ⟨(some 78), none, .extract (.t 65) 1⟩,
   ⟨(some 79), none, .extract (.t 65) 2⟩,
   ⟨(some 15), none, .move (.t 77)⟩,
   ⟨(some 16), none, .move (.t 78)⟩,
   ⟨(some 17), none, .move (.t 79)⟩] (some [0, 11, 14, 15, 16, 17]))
 (.seq (.ops [⟨(some 80), none, .move (.t 17)⟩] (some [0, 11, 14, 15, 16, 80]))
 (.cond (.t 80)
  (.seq (.ops [⟨(some 81), none, .move (.t 15)⟩,
    ⟨(some 82), none, .move (.t 16)⟩,
    ⟨(some 8), none, .move (.t 81)⟩,
    ⟨(some 9), none, .move (.t 82)⟩,
    ⟨(some 10), none, .move (.c (.bool true))⟩] (some [8, 9, 10]))
  .ret)
  .skip)))
 (.seq (.seq (.ops [⟨(some 83), none, .move (.t 14)⟩,
   ⟨(some 84), none, .bin .add 3 (.t 83) (.c (.int .i64 1))⟩,
   ⟨(some 85), none, .move (.t 11)⟩,
   ⟨(some 86), none, .nilCheck (.t 85)⟩,
   ⟨(some 87), none, .fieldAddr 2 (.t 86)⟩,
   ⟨(some 88), none, .load false 1 (.t 87)⟩,
   ⟨(some 89), none, .len (.t 88)⟩,
   ⟨(some 90), none, .bin .lss 3 (.t 84) (.t 89)⟩] (some [0, 11, 14, 90]))
 (.cond (.t 90)
  (.seq (.ops [⟨(some 91), none, .move (.t 0)⟩,
    ⟨(some 92), none, .move (.t 11)⟩,
    ⟨(some 93), none, .nilCheck (.t 92)⟩,
    ⟨(some 94), none, .fieldAddr 2 (.t 93)⟩,
    ⟨(some 95), none, .load false 1 (.t 94)⟩,
    ⟨(some 96), none, .move (.t 14)⟩,
    ⟨(some 97), none, .bin .add 3 (.t 96) (.c (.int .i64 1))⟩,
    ⟨(some 98), none, .indexAddr 1 (.t 95) (.t 97)⟩,
    ⟨(some 99), none, .load false 1 (.t 98)⟩,
    ⟨(some 100), none, .call (.c (.func (.func 60) #[] #[])) [(.t 91), (.t 99), (.c (.bool false))]⟩,
    ⟨(some 101), none, .extract (.t 100) 0⟩,
    ⟨(some 102), none, .extract (.t 100) 1⟩,
    ⟨(some 103), none, .extract (.t 100) 2⟩,
    ⟨(some 8), none, .move (.t 101)⟩,
    ⟨(some 9), none, .move (.t 102)⟩,
    ⟨(some 10), none, .move (.t 103)⟩] (some [8, 9, 10]))
  .ret)
  .skip))
 (.seq (.ops [⟨(some 8), none, .move (.c (.string .empty))⟩,
   ⟨(some 9), none, .move (.c (.int .i64 0))⟩,
   ⟨(some 10), none, .move (.c (.bool false))⟩] (some [8, 9, 10]))
 .ret))))))), [.tmp 8, .tmp 9, .tmp 10]⟩

/-- (*cloisonne/tree.Tree).last -/
def x44 : XDecl := .code ⟨3, 
 (.seq (.ops [⟨(some 6), none, .move (.c (.string .empty))⟩,
   ⟨(some 7), none, .move (.c (.int .i64 0))⟩,
   ⟨(some 8), none, .move (.c (.bool false))⟩] (some [0, 1, 2]))
 (.seq (.ops [⟨(some 16), none, .move (.t 0)⟩,
   ⟨(some 17), none, .nilCheck (.t 16)⟩,
   ⟨(some 18), none, .fieldAddr 0 (.t 17)⟩,
   ⟨(some 19), none, .load false 1 (.t 18)⟩,
   ⟨(some 20), none, .move (.t 1)⟩,
   ⟨(some 21), none, .indexAddr 3 (.t 19) (.t 20)⟩,
   ⟨(some 9), none, .move (.t 21)⟩] (some [0, 2, 9]))
 (.seq (.seq (.ops [⟨(some 22), none, .move (.t 9)⟩,
   ⟨(some 23), none, .call (.c (.func (.func 41) #[] #[])) [(.t 22)]⟩] (some [0, 2, 9, 23]))
 (.cond (.t 23)
  (.seq (.ops [⟨(some 25), none, .move (.t 9)⟩,
    ⟨(some 26), none, .nilCheck (.t 25)⟩,
    ⟨(some 27), none, .fieldAddr 0 (.t 26)⟩,
    ⟨(some 28), none, .load false 1 (.t 27)⟩,
    ⟨(some 29), none, .move (.t 2)⟩,
    ⟨(some 30), none, .call (.c (.func (.func 52) #[] #[])) [(.t 28), (.t 29)]⟩,
    ⟨(some 24), none, .move (.t 30)⟩,
    ⟨(some 31), none, .extract (.t 24) 0⟩,
    ⟨(some 32), none, .extract (.t 24) 1⟩,
    ⟨(some 10), none, .move (.t 31)⟩,
    ⟨(some 11), none, .move (.t 32)⟩] (some [9, 10]))
  (.seq (.seq (.ops [⟨(some 33), none, .move (.t 10)⟩,
    ⟨(some 34), none, .bin .eql 3 (.t 33) (.c (.int .i64 0))⟩] (some [9, 10, 34]))
  (.cond (.t 34)
   (.seq (.ops [⟨(some 6), none, .move (.c (.string .empty))⟩,
     ⟨(some 7), none, .move (.c (.int .i64 0))⟩,
     ⟨(some 8), none, .move (.c (.bool false))⟩] (some [6, 7, 8]))
   .ret)
   .skip))
  (.seq (.opsr [⟨(some 35), none, .move (.t 9)⟩,
    ⟨(some 36), none, .nilCheck (.t 35)⟩,
    ⟨(some 37), none, .fieldAddr 0 (.t 36)⟩,
    ⟨(some 38), none, .load false 1 (.t 37)⟩,
    ⟨(some 39), none, .move (.t 10)⟩,
    ⟨(some 40), none, .bin .sub 3 (.t 39) (.c (.int .i64 1))⟩,
    ⟨(some 41), none, .indexAddr 1 (.t 38) (.t 40)⟩,
    ⟨(some 42), none, .load false 1 (.t 41)⟩,
    ⟨(some 43), none, .move (.t 9)⟩,
    ⟨(some 44), none, .nilCheck (.t 43)⟩,
    ⟨(some 45), none, .fieldAddr 1 (.t 44)⟩,
    ⟨(some 46), none, .load false 1 (.t 45)⟩,
    ⟨(some 47), none, .move (.t 10)⟩,
    ⟨(some 48), none, .bin .sub 3 (.t 47) (.c (.int .i64 1))⟩,
    ⟨(some 49), none, .indexAddr 1 (.t 46) (.t 48)⟩,
    ⟨(some 50), none, .load false 1 (.t 49)⟩,
    ⟨(some 6), none, .move (.t 42)⟩,
    ⟨(some 7), none, .move (.t 50)⟩,
    ⟨(some 8), none, .move (.c (.bool true))⟩] (some [6, 7, 8]))
  .ret)))
  .skip))
 (.seq (.ops [⟨(some 51), none, .move (.t 9)⟩,
   ⟨(some 52), none, .move (.t 2)⟩,
   ⟨(some 53), none, .call (.c (.func (.func 51) #[] #[])) [(.t 51), (.t 52)]⟩,
   ⟨(some 12), none, .move (.t 53)⟩] (some [0, 2, 9, 12]))
 (.seq (.seq (.ops [⟨(some 55), none, .move (.t 0)⟩,
   ⟨(some 56), none, .move (.t 9)⟩,
   ⟨(some 57), none, .nilCheck (.t 56)⟩,
   ⟨(some 58), none, .fieldAddr 2 (.t 57)⟩,
   ⟨(some 59), none, .load false 1 (.t 58)⟩,
   ⟨(some 60), none, .move (.t 12)⟩,
   ⟨(some 61), none, .indexAddr 1 (.t 59) (.t 60)⟩,
   ⟨(some 62), none, .load false 1 (.t 61)⟩,
   ⟨(some 63), none, .move (.t 2)⟩,
   ⟨(some 64), none, .call (.c (.func (.func 44) #[] #[])) [(.t 55), (.t 62), (.t 63)]⟩,
   ⟨(some 54), none, .move (.t 64)⟩,
   ⟨(some 65), none, .extract (.t 54) 0⟩,
   ⟨(some 66), none, .extract (.t 54) 1⟩,
   ⟨(some 67), none, .extract (.t 54) 2⟩,
   ⟨(some 13), none, .move (.t 65)⟩,
   ⟨(some 14), none, .move (.t 66)⟩,
   ⟨(some 15), none, .move (.t 67)⟩] (some [0, 9, 12, 13, 14, 15]))
 (.seq (.ops [⟨(some 68), none, .move (.t 15)⟩] (some [0, 9, 12, 13, 14, 68]))
 (.cond (.t 68)
  (.seq (.ops [⟨(some 69), none, .move (.t 13)⟩,
    ⟨(some 70), none, .move (.t 14)⟩,
    ⟨(some 6), none, .move (.t 69)⟩,
    ⟨(some 7), none, .move (.t 70)⟩,
    ⟨(some 8), none, .move (.c (.bool true))⟩] (some [6, 7, 8]))
  .ret)
  .skip)))
 (.seq (.seq (.ops [⟨(some 71), none, .move (.t 12)⟩,
   ⟨(some 72), none, .bin .gtr 3 (.t 71) (.c (.int .i64 0))⟩] (some [0, 9, 12, 72]))
 (.cond (.t 72)
  (.seq (.ops [⟨(some 73), none, .move (.t 0)⟩,
    ⟨(some 74), none, .move (.t 9)⟩,
    ⟨(some 75), none, .nilCheck (.t 74)⟩,
    ⟨(some 76), none, .fieldAddr 2 (.t 75)⟩,
    ⟨(some 77), none, .load false 1 (.t 76)⟩,
    ⟨(some 78), none, .move (.t 12)⟩,
    ⟨(some 79), none, .bin .sub 3 (.t 78) (.c (.int .i64 1))⟩,
    ⟨(some 80), none, .indexAddr 1 (.t 77) (.t 79)⟩,
    ⟨(some 81), none, .load false 1 (.t 80)⟩,
    ⟨(some 82), none, .call (.c (.func (.func 60) #[] #[])) [(.t 73), (.t 81), (.c (.bool true))]⟩,
    ⟨(some 83), none, .extract (.t 82) 0⟩,
    ⟨(some 84), none, .extract (.t 82) 1⟩,
    ⟨(some 85), none, .extract (.t 82) 2⟩,
    ⟨(some 6), none, .move (.t 83)⟩,
    ⟨(some 7), none, .move (.t 84)⟩,
    ⟨(some 8), none, .move (.t 85)⟩] (some [6, 7, 8]))
  .ret)
  .skip))
 (.seq (.ops [⟨(some 6), none, .move (.c (.string .empty))⟩,
   ⟨(some 7), none, .move (.c (.int .i64 0))⟩,
   ⟨(some 8), none, .move (.c (.bool false))⟩] (some [6, 7, 8]))
 .ret))))))), [.tmp 6, .tmp 7, .tmp 8]⟩

/-- (*cloisonne/tree.node).way -/
def x51 : XDecl := .code ⟨2, 
 (.seq (.ops [⟨(some 4), none, .move (.c (.int .i64 0))⟩] (some [0, 1]))
 (.seq (.ops [⟨(some 8), none, .move (.t 0)⟩,
   ⟨(some 9), none, .nilCheck (.t 8)⟩,
   ⟨(some 10), none, .fieldAddr 0 (.t 9)⟩,
   ⟨(some 11), none, .load false 1 (.t 10)⟩,
   ⟨(some 12), none, .move (.t 1)⟩,
   ⟨(some 13), none, .call (.c (.func (.func 52) #[] #[])) [(.t 11), (.t 12)]⟩,
   ⟨(some 7), none, .move (.t 13)⟩,
   ⟨(some 14), none, .extract (.t 7) 0⟩,
   ⟨(some 15), none, .extract (.t 7) 1⟩,
   ⟨(some 5), none, .move (.t 14)⟩,
   ⟨(some 6), none, .move (.t 15)⟩] (some [5, 6]))
 (.seq (.seq (.ops [⟨(some 16), none, .move (.t 6)⟩] (some [5, 16]))
 (.cond (.t 16)
  (.ops [⟨(some 17), none, .move (.t 5)⟩,
    ⟨(some 18), none, .bin .add 3 (.t 17) (.c (.int .i64 1))⟩,
    ⟨(some 5), none, .move (.t 18)⟩] (some [5]))
  .skip))
 (.seq (.ops [⟨(some 19), none, .move (.t 5)⟩,
   ⟨(some 4), none, .move (.t 19)⟩] (some [4]))
 .ret)))), [.tmp 4]⟩

/-- slices.BinarySearch[[]string,string] -/
def x52 : XDecl := .code ⟨2, 
 (.seq (.ops [⟨(some 4), none, .move (.c (.int .i64 0))⟩,
   ⟨(some 5), none, .move (.c (.bool false))⟩] (some [0, 1]))
 (.seq (.ops [⟨(some 10), none, .move (.t 0)⟩,
   ⟨(some 11), none, .len (.t 10)⟩,
   ⟨(some 6), none, .move (.t 11)⟩] (some [0, 1, 6]))
 (.seq (.ops [⟨(some 12), none, .move (.t 6)⟩,
   ⟨(some 7), none, .move (.c (.int .i64 0))⟩,
   ⟨(some 8), none, .move (.t 12)⟩] (some [0, 1, 6, 7, 8]))
 (.seq (.block 0
  (.loop
   (.seq (.seq (.ops [⟨(some 13), none, .move (.t 7)⟩,
     ⟨(some 14), none, .move (.t 8)⟩,
     ⟨(some 15), none, .bin .lss 3 (.t 13) (.t 14)⟩] (some [0, 1, 6, 7, 8, 15]))
   (.cond (.t 15)
    .skip
    (.exit 0)))
   (.block 1
    (.seq (.ops [⟨(some 16), none, .move (.t 7)⟩,
      ⟨(some 17), none, .move (.t 8)⟩,
      ⟨(some 18), none, .bin .add 3 (.t 16) (.t 17)⟩,
      ⟨(some 19), none, .conv 3 98 (.t 18)⟩,
      ⟨(some 20), none, .bin .shr 98 (.t 19) (.c (.int .u64 1))⟩,
      ⟨(some 21), none, .conv 98 3 (.t 20)⟩,
      ⟨(some 9), none, .move (.t 21)⟩] (some [0, 1, 6, 7, 8, 9]))
    (.seq (.ops [⟨(some 22), none, .move (.t 0)⟩,
      ⟨(some 23), none, .move (.t 9)⟩,
      ⟨(some 24), none, .indexAddr 1 (.t 22) (.t 23)⟩,
      ⟨(some 25), none, .load false 1 (.t 24)⟩,
      ⟨(some 26), none, .move (.t 1)⟩,
      ⟨(some 27), none, .call (.c (.func (.func 66) #[] #[])) [(.t 25), (.t 26)]⟩] (some [0, 1, 6, 7, 8, 9, 27]))
    (.cond (.t 27)
     (.ops [⟨(some 28), none, .move (.t 9)⟩,
       ⟨(some 29), none, .bin .add 3 (.t 28) (.c (.int .i64 1))⟩,
       ⟨(some 7), none, .move (.t 29)⟩] (some [0, 1, 6, 7, 8]))
     (.ops [⟨(some 30), none, .move (.t 9)⟩,
       ⟨(some 8), none, .move (.t 30)⟩] (some [0, 1, 6, 7, 8])))))))))
 (.seq (.ops [⟨(some 31), none, .move (.t 7)⟩,
   ⟨(some 32), none, .move (.t 7)⟩,
   ⟨(some 33), none, .move (.t 6)⟩,
   ⟨(some 34), none, .bin .lss 3 (.t 32) (.t 33)⟩,
   ⟨(some 35), none, .move (.t 34)⟩,
   ⟨(some 36), (some (35, true)), .move (.t 0)⟩,
   ⟨(some 37), (some (35, true)), .move (.t 7)⟩,
   ⟨(some 38), (some (35, true)), .indexAddr 1 (.t 36) (.t 37)⟩,
   ⟨(some 39), (some (35, true)), .load false 1 (.t 38)⟩,
   ⟨(some 40), (some (35, true)), .move (.t 1)⟩,
   ⟨(some 41), (some (35, true)), .bin .eql 9 (.t 39) (.t 40)⟩,
   ⟨(some 42), (some (35, true)), .move (.t 41)⟩,
   ⟨(some 43), (some (42, false)), .move (.t 0)⟩,
   ⟨(some 44), (some (42, false)), .move (.t 7)⟩,
   ⟨(some 45), (some (42, false)), .indexAddr 1 (.t 43) (.t 44)⟩,
   ⟨(some 46), (some (42, false)), .load false 1 (.t 45)⟩,
   ⟨(some 47), (some (42, false)), .call (.c (.func (.func 67) #[] #[])) [(.t 46)]⟩,
   ⟨(some 48), (some (42, false)), .move (.t 47)⟩,
   ⟨(some 49), (some (48, true)), .move (.t 1)⟩,
   ⟨(some 50), (some (48, true)), .call (.c (.func (.func 67) #[] #[])) [(.t 49)]⟩,
   ⟨(some 51), (some (42, false)), .pick (.t 48) (.t 50) (.c (.bool false))⟩,
   ⟨(some 52), (some (35, true)), .pick (.t 42) (.c (.bool true)) (.t 51)⟩,
   ⟨(some 53), none, .pick (.t 35) (.t 52) (.c (.bool false))⟩,
   ⟨(some 4), none, .move (.t 31)⟩,
   ⟨(some 5), none, .move (.t 53)⟩] (some [4, 5]))
 .ret))))), [.tmp 4, .tmp 5]⟩

/-- slices.Insert[[]string,string] -/
def x53 : XDecl := .code ⟨3, 
 (.seq (.ops [⟨(some 6), none, .move (.c (.slice none 0 0))⟩] (some [0, 1, 2]))
 (.seq (.ops [⟨(some 10), none, .move (.t 0)⟩,
   ⟨(some 11), none, .move (.t 1)⟩,
   ⟨(some 12), none, .slice 1 (.t 10) (some (.t 11)) none none⟩] (some [0, 1, 2]))
 (.seq (.ops [⟨(some 13), none, .move (.t 2)⟩,
   ⟨(some 14), none, .len (.t 13)⟩,
   ⟨(some 7), none, .move (.t 14)⟩] (some [0, 1, 2, 7]))
 (.seq (.seq (.ops [⟨(some 15), none, .move (.t 7)⟩,
   ⟨(some 16), none, .bin .eql 3 (.t 15) (.c (.int .i64 0))⟩] (some [0, 1, 2, 7, 16]))
 (.cond (.t 16)
  (.seq (.ops [⟨(some 17), none, .move (.t 0)⟩,
    ⟨(some 6), none, .move (.t 17)⟩] (some [6]))
  .ret)
  .skip))
 (.seq (.ops [⟨(some 18), none, .move (.t 0)⟩,
   ⟨(some 19), none, .len (.t 18)⟩,
   ⟨(some 8), none, .move (.t 19)⟩] (some [0, 1, 2, 7, 8]))
 (.seq (.seq (.ops [⟨(some 20), none, .move (.t 1)⟩,
   ⟨(some 21), none, .move (.t 8)⟩,
   ⟨(some 22), none, .bin .eql 3 (.t 20) (.t 21)⟩] (some [0, 1, 2, 7, 8, 22]))
 (.cond (.t 22)
  (.seq (.ops [⟨(some 23), none, .move (.t 0)⟩,
    ⟨(some 24), none, .move (.t 2)⟩,
    ⟨(some 25), none, .append 1 16 [(.string .empty)] (.t 23) (.t 24)⟩,
    ⟨(some 6), none, .move (.t 25)⟩] (some [6]))
  .ret)
  .skip))
 (.seq (.seq (.ops [⟨(some 26), none, .move (.t 8)⟩,
   ⟨(some 27), none, .move (.t 7)⟩,
   ⟨(some 28), none, .bin .add 3 (.t 26) (.t 27)⟩,
   ⟨(some 29), none, .move (.t 0)⟩,
   ⟨(some 30), none, .cap (.t 29)⟩,
   ⟨(some 31), none, .bin .gtr 3 (.t 28) (.t 30)⟩] (some [0, 1, 2, 7, 8, 31]))
 (.cond (.t 31)
  (.seq (.ops [⟨(some 32), none, .move (.t 0)⟩,
    ⟨(some 33), none, .move (.t 1)⟩,
    ⟨(some 34), none, .slice 1 (.t 32) none (some (.t 33)) none⟩,
    ⟨(some 35), none, .move (.t 8)⟩,
    ⟨(some 36), none, .move (.t 7)⟩,
    ⟨(some 37), none, .bin .add 3 (.t 35) (.t 36)⟩,
    ⟨(some 38), none, .move (.t 1)⟩,
    ⟨(some 39), none, .bin .sub 3 (.t 37) (.t 38)⟩,
    ⟨(some 40), none, .appendZeros 1 16 [(.string .empty)] (.t 34) (.t 39)⟩,
    ⟨(some 9), none, .move (.t 40)⟩] (some [0, 1, 2, 7, 9]))
  (.seq (.ops [⟨(some 41), none, .move (.t 9)⟩,
    ⟨(some 42), none, .move (.t 1)⟩,
    ⟨(some 43), none, .slice 1 (.t 41) (some (.t 42)) none none⟩,
    ⟨(some 44), none, .move (.t 2)⟩,
    ⟨(some 45), none, .copy 1 (.t 43) (.t 44)⟩] (some [0, 1, 7, 9]))
  (.seq (.opsd [(0, 0, ⟨(some 46), none, .move (.t 9)⟩),
    (1, 0, ⟨(some 47), none, .move (.t 1)⟩),
    (2, 0, ⟨(some 48), none, .move (.t 7)⟩),
    (3, 6, ⟨(some 49), none, .bin .add 3 (.t 47) (.t 48)⟩),
    (4, 15, ⟨(some 50), none, .slice 1 (.t 46) (some (.t 49)) none none⟩),
    (5, 0, ⟨(some 51), none, .move (.t 0)⟩),
    (6, 0, ⟨(some 52), none, .move (.t 1)⟩),
    (7, 96, ⟨(some 53), none, .slice 1 (.t 51) (some (.t 52)) none none⟩),
    (8, 255, ⟨(some 54), none, .copy 1 (.t 50) (.t 53)⟩)] (some [9]))
  (.seq (.ops [⟨(some 55), none, .move (.t 9)⟩,
    ⟨(some 6), none, .move (.t 55)⟩] (some [6]))
  .ret))))
  .skip))
 (.seq (.ops [⟨(some 56), none, .move (.t 0)⟩,
   ⟨(some 57), none, .move (.t 8)⟩,
   ⟨(some 58), none, .move (.t 7)⟩,
   ⟨(some 59), none, .bin .add 3 (.t 57) (.t 58)⟩,
   ⟨(some 60), none, .slice 1 (.t 56) none (some (.t 59)) none⟩,
   ⟨(some 0), none, .move (.t 60)⟩] (some [0, 1, 2, 7, 8]))
 (.seq (.seq (.ops [⟨(some 61), none, .move (.t 2)⟩,
   ⟨(some 62), none, .move (.t 0)⟩,
   ⟨(some 63), none, .move (.t 1)⟩,
   ⟨(some 64), none, .move (.t 7)⟩,
   ⟨(some 65), none, .bin .add 3 (.t 63) (.t 64)⟩,
   ⟨(some 66), none, .slice 1 (.t 62) (some (.t 65)) none none⟩,
   ⟨(some 67), none, .call (.c (.func (.func 68) #[] #[])) [(.t 61), (.t 66)]⟩,
   ⟨(some 68), none, .un .not (.t 67)⟩] (some [0, 1, 2, 7, 8, 68]))
 (.cond (.t 68)
  (.seq (.opsd [(0, 0, ⟨(some 69), none, .move (.t 0)⟩),
    (1, 0, ⟨(some 70), none, .move (.t 1)⟩),
    (2, 0, ⟨(some 71), none, .move (.t 7)⟩),
    (3, 6, ⟨(some 72), none, .bin .add 3 (.t 70) (.t 71)⟩),
    (4, 15, ⟨(some 73), none, .slice 1 (.t 69) (some (.t 72)) none none⟩),
    (5, 0, ⟨(some 74), none, .move (.t 0)⟩),
    (6, 0, ⟨(some 75), none, .move (.t 1)⟩),
    (7, 96, ⟨(some 76), none, .slice 1 (.t 74) (some (.t 75)) none none⟩),
    (8, 255, ⟨(some 77), none, .copy 1 (.t 73) (.t 76)⟩)] (some [0, 1, 2]))
  (.seq (.ops [⟨(some 78), none, .move (.t 0)⟩,
    ⟨(some 79), none, .move (.t 1)⟩,
    ⟨(some 80), none, .slice 1 (.t 78) (some (.t 79)) none none⟩,
    ⟨(some 81), none, .move (.t 2)⟩,
    ⟨(some 82), none, .copy 1 (.t 80) (.t 81)⟩] (some [0]))
  (.seq (.ops [⟨(some 83), none, .move (.t 0)⟩,
    ⟨(some 6), none, .move (.t 83)⟩] (some [6]))
  .ret)))
  .skip))
 (.seq (.ops [⟨(some 84), none, .move (.t 0)⟩,
   ⟨(some 85), none, .move (.t 8)⟩,
   ⟨(some 86), none, .slice 1 (.t 84) (some (.t 85)) none none⟩,
   ⟨(some 87), none, .move (.t 2)⟩,
   ⟨(some 88), none, .copy 1 (.t 86) (.t 87)⟩] (some [0, 1, 7]))
 (.seq (.ops [⟨(some 89), none, .move (.t 0)⟩,
   ⟨(some 90), none, .move (.t 1)⟩,
   ⟨(some 91), none, .slice 1 (.t 89) (some (.t 90)) none none⟩,
   ⟨(some 92), none, .move (.t 7)⟩,
   ⟨(some 93), none, .call (.c (.func (.func 69) #[] #[])) [(.t 91), (.t 92)]⟩] (some [0]))
 (.seq (.ops [⟨(some 94), none, .move (.t 0)⟩,
   ⟨(some 6), none, .move (.t 94)⟩] (some [6]))
 .ret)))))))))))), [.tmp 6]⟩

/-- slices.Insert[[]int,int] -/
def x54 : XDecl := .code ⟨3, 
 (.seq (.ops [⟨(some 6), none, .move (.c (.slice none 0 0))⟩] (some [0, 1, 2]))
 (.seq (.ops [⟨(some 10), none, .move (.t 0)⟩,
   ⟨(some 11), none, .move (.t 1)⟩,
   ⟨(some 12), none, .slice 1 (.t 10) (some (.t 11)) none none⟩] (some [0, 1, 2]))
 (.seq (.ops [⟨(some 13), none, .move (.t 2)⟩,
   ⟨(some 14), none, .len (.t 13)⟩,
   ⟨(some 7), none, .move (.t 14)⟩] (some [0, 1, 2, 7]))
 (.seq (.seq (.ops [⟨(some 15), none, .move (.t 7)⟩,
   ⟨(some 16), none, .bin .eql 3 (.t 15) (.c (.int .i64 0))⟩] (some [0, 1, 2, 7, 16]))
 (.cond (.t 16)
  (.seq (.ops [⟨(some 17), none, .move (.t 0)⟩,
    ⟨(some 6), none, .move (.t 17)⟩] (some [6]))
  .ret)
  .skip))
 (.seq (.ops [⟨(some 18), none, .move (.t 0)⟩,
   ⟨(some 19), none, .len (.t 18)⟩,
   ⟨(some 8), none, .move (.t 19)⟩] (some [0, 1, 2, 7, 8]))
 (.seq (.seq (.ops [⟨(some 20), none, .move (.t 1)⟩,
   ⟨(some 21), none, .move (.t 8)⟩,
   ⟨(some 22), none, .bin .eql 3 (.t 20) (.t 21)⟩] (some [0, 1, 2, 7, 8, 22]))
 (.cond (.t 22)
  (.seq (.ops [⟨(some 23), none, .move (.t 0)⟩,
    ⟨(some 24), none, .move (.t 2)⟩,
    ⟨(some 25), none, .append 1 8 [(.int .i64 0)] (.t 23) (.t 24)⟩,
    ⟨(some 6), none, .move (.t 25)⟩] (some [6]))
  .ret)
  .skip))
 (.seq (.seq (.ops [⟨(some 26), none, .move (.t 8)⟩,
   ⟨(some 27), none, .move (.t 7)⟩,
   ⟨(some 28), none, .bin .add 3 (.t 26) (.t 27)⟩,
   ⟨(some 29), none, .move (.t 0)⟩,
   ⟨(some 30), none, .cap (.t 29)⟩,
   ⟨(some 31), none, .bin .gtr 3 (.t 28) (.t 30)⟩] (some [0, 1, 2, 7, 8, 31]))
 (.cond (.t 31)
  (.seq (.ops [⟨(some 32), none, .move (.t 0)⟩,
    ⟨(some 33), none, .move (.t 1)⟩,
    ⟨(some 34), none, .slice 1 (.t 32) none (some (.t 33)) none⟩,
    ⟨(some 35), none, .move (.t 8)⟩,
    ⟨(some 36), none, .move (.t 7)⟩,
    ⟨(some 37), none, .bin .add 3 (.t 35) (.t 36)⟩,
    ⟨(some 38), none, .move (.t 1)⟩,
    ⟨(some 39), none, .bin .sub 3 (.t 37) (.t 38)⟩,
    ⟨(some 40), none, .appendZeros 1 8 [(.int .i64 0)] (.t 34) (.t 39)⟩,
    ⟨(some 9), none, .move (.t 40)⟩] (some [0, 1, 2, 7, 9]))
  (.seq (.ops [⟨(some 41), none, .move (.t 9)⟩,
    ⟨(some 42), none, .move (.t 1)⟩,
    ⟨(some 43), none, .slice 1 (.t 41) (some (.t 42)) none none⟩,
    ⟨(some 44), none, .move (.t 2)⟩,
    ⟨(some 45), none, .copy 1 (.t 43) (.t 44)⟩] (some [0, 1, 7, 9]))
  (.seq (.opsd [(0, 0, ⟨(some 46), none, .move (.t 9)⟩),
    (1, 0, ⟨(some 47), none, .move (.t 1)⟩),
    (2, 0, ⟨(some 48), none, .move (.t 7)⟩),
    (3, 6, ⟨(some 49), none, .bin .add 3 (.t 47) (.t 48)⟩),
    (4, 15, ⟨(some 50), none, .slice 1 (.t 46) (some (.t 49)) none none⟩),
    (5, 0, ⟨(some 51), none, .move (.t 0)⟩),
    (6, 0, ⟨(some 52), none, .move (.t 1)⟩),
    (7, 96, ⟨(some 53), none, .slice 1 (.t 51) (some (.t 52)) none none⟩),
    (8, 255, ⟨(some 54), none, .copy 1 (.t 50) (.t 53)⟩)] (some [9]))
  (.seq (.ops [⟨(some 55), none, .move (.t 9)⟩,
    ⟨(some 6), none, .move (.t 55)⟩] (some [6]))
  .ret))))
  .skip))
 (.seq (.ops [⟨(some 56), none, .move (.t 0)⟩,
   ⟨(some 57), none, .move (.t 8)⟩,
   ⟨(some 58), none, .move (.t 7)⟩,
   ⟨(some 59), none, .bin .add 3 (.t 57) (.t 58)⟩,
   ⟨(some 60), none, .slice 1 (.t 56) none (some (.t 59)) none⟩,
   ⟨(some 0), none, .move (.t 60)⟩] (some [0, 1, 2, 7, 8]))
 (.seq (.seq (.ops [⟨(some 61), none, .move (.t 2)⟩,
   ⟨(some 62), none, .move (.t 0)⟩,
   ⟨(some 63), none, .move (.t 1)⟩,
   ⟨(some 64), none, .move (.t 7)⟩,
   ⟨(some 65), none, .bin .add 3 (.t 63) (.t 64)⟩,
   ⟨(some 66), none, .slice 1 (.t 62) (some (.t 65)) none none⟩,
   ⟨(some 67), none, .call (.c (.func (.func 70) #[] #[])) [(.t 61), (.t 66)]⟩,
   ⟨(some 68), none, .un .not (.t 67)⟩] (some [0, 1, 2, 7, 8, 68]))
 (.cond (.t 68)
  (.seq (.opsd [(0, 0, ⟨(some 69), none, .move (.t 0)⟩),
    (1, 0, ⟨(some 70), none, .move (.t 1)⟩),
    (2, 0, ⟨(some 71), none, .move (.t 7)⟩),
    (3, 6, ⟨(some 72), none, .bin .add 3 (.t 70) (.t 71)⟩),
    (4, 15, ⟨(some 73), none, .slice 1 (.t 69) (some (.t 72)) none none⟩),
    (5, 0, ⟨(some 74), none, .move (.t 0)⟩),
    (6, 0, ⟨(some 75), none, .move (.t 1)⟩),
    (7, 96, ⟨(some 76), none, .slice 1 (.t 74) (some (.t 75)) none none⟩),
    (8, 255, ⟨(some 77), none, .copy 1 (.t 73) (.t 76)⟩)] (some [0, 1, 2]))
  (.seq (.ops [⟨(some 78), none, .move (.t 0)⟩,
    ⟨(some 79), none, .move (.t 1)⟩,
    ⟨(some 80), none, .slice 1 (.t 78) (some (.t 79)) none none⟩,
    ⟨(some 81), none, .move (.t 2)⟩,
    ⟨(some 82), none, .copy 1 (.t 80) (.t 81)⟩] (some [0]))
  (.seq (.ops [⟨(some 83), none, .move (.t 0)⟩,
    ⟨(some 6), none, .move (.t 83)⟩] (some [6]))
  .ret)))
  .skip))
 (.seq (.ops [⟨(some 84), none, .move (.t 0)⟩,
   ⟨(some 85), none, .move (.t 8)⟩,
   ⟨(some 86), none, .slice 1 (.t 84) (some (.t 85)) none none⟩,
   ⟨(some 87), none, .move (.t 2)⟩,
   ⟨(some 88), none, .copy 1 (.t 86) (.t 87)⟩] (some [0, 1, 7]))
 (.seq (.ops [⟨(some 89), none, .move (.t 0)⟩,
   ⟨(some 90), none, .move (.t 1)⟩,
   ⟨(some 91), none, .slice 1 (.t 89) (some (.t 90)) none none⟩,
   ⟨(some 92), none, .move (.t 7)⟩,
   ⟨(some 93), none, .call (.c (.func (.func 71) #[] #[])) [(.t 91), (.t 92)]⟩] (some [0]))
 (.seq (.ops [⟨(some 94), none, .move (.t 0)⟩,
   ⟨(some 6), none, .move (.t 94)⟩] (some [6]))
 .ret)))))))))))), [.tmp 6]⟩

/-- slices.Clone[[]string,string] -/
def x55 : XDecl := .code ⟨1, 
 (.seq (.ops [⟨(some 2), none, .move (.c (.slice none 0 0))⟩] (some [0]))
 (.seq (.seq (.ops [⟨(some 3), none, .move (.t 0)⟩,
   ⟨(some 4), none, .isNil .slice false (.t 3)⟩] (some [0, 4]))
 (.cond (.t 4)
  (.seq (.ops [⟨(some 2), none, .move (.c (.slice none 0 0))⟩] (some [2]))
  .ret)
  .skip))
 (.seq (.ops [⟨(some 5), none, .buildSlice [(.string .empty)] 1 0 []⟩,
   ⟨(some 6), none, .move (.t 0)⟩,
   ⟨(some 7), none, .append 1 16 [(.string .empty)] (.t 5) (.t 6)⟩,
   ⟨(some 2), none, .move (.t 7)⟩] (some [2]))
 .ret))), [.tmp 2]⟩

/-- slices.Clone[[]int,int] -/
def x56 : XDecl := .code ⟨1, 
 (.seq (.ops [⟨(some 2), none, .move (.c (.slice none 0 0))⟩] (some [0]))
 (.seq (.seq (.ops [⟨(some 3), none, .move (.t 0)⟩,
   ⟨(some 4), none, .isNil .slice false (.t 3)⟩] (some [0, 4]))
 (.cond (.t 4)
  (.seq (.ops [⟨(some 2), none, .move (.c (.slice none 0 0))⟩] (some [2]))
  .ret)
  .skip))
 (.seq (.ops [⟨(some 5), none, .buildSlice [(.int .i64 0)] 1 0 []⟩,
   ⟨(some 6), none, .move (.t 0)⟩,
   ⟨(some 7), none, .append 1 8 [(.int .i64 0)] (.t 5) (.t 6)⟩,
   ⟨(some 2), none, .move (.t 7)⟩] (some [2]))
 .ret))), [.tmp 2]⟩

/-- slices.Delete[[]string,string] -/
def x57 : XDecl := .code ⟨3, 
 (.seq (.ops [⟨(some 6), none, .move (.c (.slice none 0 0))⟩] (some [0, 1, 2]))
 (.seq (.ops [⟨(some 8), none, .move (.t 0)⟩,
   ⟨(some 9), none, .move (.t 1)⟩,
   ⟨(some 10), none, .move (.t 2)⟩,
   ⟨(some 11), none, .move (.t 0)⟩,
   ⟨(some 12), none, .len (.t 11)⟩,
   ⟨(some 13), none, .slice 1 (.t 8) (some (.t 9)) (some (.t 10)) (some (.t 12))⟩] (some [0, 1, 2]))
 (.seq (.seq (.ops [⟨(some 14), none, .move (.t 1)⟩,
   ⟨(some 15), none, .move (.t 2)⟩,
   ⟨(some 16), none, .bin .eql 3 (.t 14) (.t 15)⟩] (some [0, 1, 2, 16]))
 (.cond (.t 16)
  (.seq (.ops [⟨(some 17), none, .move (.t 0)⟩,
    ⟨(some 6), none, .move (.t 17)⟩] (some [6]))
  .ret)
  .skip))
 (.seq (.ops [⟨(some 18), none, .move (.t 0)⟩,
   ⟨(some 19), none, .len (.t 18)⟩,
   ⟨(some 7), none, .move (.t 19)⟩] (some [0, 1, 2, 7]))
 (.seq (.opsd [(0, 0, ⟨(some 20), none, .move (.t 0)⟩),
   (1, 0, ⟨(some 21), none, .move (.t 1)⟩),
   (2, 3, ⟨(some 22), none, .slice 1 (.t 20) none (some (.t 21)) none⟩),
   (3, 0, ⟨(some 23), none, .move (.t 0)⟩),
   (4, 0, ⟨(some 24), none, .move (.t 2)⟩),
   (5, 24, ⟨(some 25), none, .slice 1 (.t 23) (some (.t 24)) none none⟩),
   (6, 63, ⟨(some 26), none, .append 1 16 [(.string .empty)] (.t 22) (.t 25)⟩),
   (7, 127, ⟨(some 0), none, .move (.t 26)⟩)] (some [0, 7]))
 (.seq (.ops [⟨(some 27), none, .move (.t 0)⟩,
   ⟨(some 28), none, .move (.t 0)⟩,
   ⟨(some 29), none, .len (.t 28)⟩,
   ⟨(some 30), none, .move (.t 7)⟩,
   ⟨(some 31), none, .slice 1 (.t 27) (some (.t 29)) (some (.t 30)) none⟩,
   ⟨none, none, .clear [(.string .empty)] (.t 31)⟩] (some [0]))
 (.seq (.ops [⟨(some 32), none, .move (.t 0)⟩,
   ⟨(some 6), none, .move (.t 32)⟩] (some [6]))
 .ret))))))), [.tmp 6]⟩

/-- slices.Delete[[]int,int] -/
def x58 : XDecl := .code ⟨3, 
 (.seq (.ops [⟨(some 6), none, .move (.c (.slice none 0 0))⟩] (some [0, 1, 2]))
 (.seq (.ops [⟨(some 8), none, .move (.t 0)⟩,
   ⟨(some 9), none, .move (.t 1)⟩,
   ⟨(some 10), none, .move (.t 2)⟩,
   ⟨(some 11), none, .move (.t 0)⟩,
   ⟨(some 12), none, .len (.t 11)⟩,
   ⟨(some 13), none, .slice 1 (.t 8) (some (.t 9)) (some (.t 10)) (some (.t 12))⟩] (some [0, 1, 2]))
 (.seq (.seq (.ops [⟨(some 14), none, .move (.t 1)⟩,
   ⟨(some 15), none, .move (.t 2)⟩,
   ⟨(some 16), none, .bin .eql 3 (.t 14) (.t 15)⟩] (some [0, 1, 2, 16]))
 (.cond (.t 16)
  (.seq (.ops [⟨(some 17), none, .move (.t 0)⟩,
    ⟨(some 6), none, .move (.t 17)⟩] (some [6]))
  .ret)
  .skip))
 (.seq (.ops [⟨(some 18), none, .move (.t 0)⟩,
   ⟨(some 19), none, .len (.t 18)⟩,
   ⟨(some 7), none, .move (.t 19)⟩] (some [0, 1, 2, 7]))
 (.seq (.opsd [(0, 0, ⟨(some 20), none, .move (.t 0)⟩),
   (1, 0, ⟨(some 21), none, .move (.t 1)⟩),
   (2, 3, ⟨(some 22), none, .slice 1 (.t 20) none (some (.t 21)) none⟩),
   (3, 0, ⟨(some 23), none, .move (.t 0)⟩),
   (4, 0, ⟨(some 24), none, .move (.t 2)⟩),
   (5, 24, ⟨(some 25), none, .slice 1 (.t 23) (some (.t 24)) none none⟩),
   (6, 63, ⟨(some 26), none, .append 1 8 [(.int .i64 0)] (.t 22) (.t 25)⟩),
   (7, 127, ⟨(some 0), none, .move (.t 26)⟩)] (some [0, 7]))
 (.seq (.ops [⟨(some 27), none, .move (.t 0)⟩,
   ⟨(some 28), none, .move (.t 0)⟩,
   ⟨(some 29), none, .len (.t 28)⟩,
   ⟨(some 30), none, .move (.t 7)⟩,
   ⟨(some 31), none, .slice 1 (.t 27) (some (.t 29)) (some (.t 30)) none⟩,
   ⟨none, none, .clear [(.int .i64 0)] (.t 31)⟩] (some [0]))
 (.seq (.ops [⟨(some 32), none, .move (.t 0)⟩,
   ⟨(some 6), none, .move (.t 32)⟩] (some [6]))
 .ret))))))), [.tmp 6]⟩

/-- (*cloisonne/tree.Tree).mend -/
def x59 : XDecl := .code ⟨3, 
 (.seq (.opsr [⟨(some 12), none, .move (.t 0)⟩,
   ⟨(some 13), none, .nilCheck (.t 12)⟩,
   ⟨(some 14), none, .fieldAddr 0 (.t 13)⟩,
   ⟨(some 15), none, .load false 1 (.t 14)⟩,
   ⟨(some 16), none, .move (.t 1)⟩,
   ⟨(some 17), none, .nilCheck (.t 16)⟩,
   ⟨(some 18), none, .fieldAddr 2 (.t 17)⟩,
   ⟨(some 19), none, .load false 1 (.t 18)⟩,
   ⟨(some 20), none, .move (.t 2)⟩,
   ⟨(some 21), none, .bin .sub 3 (.t 20) (.c (.int .i64 1))⟩,
   ⟨(some 22), none, .indexAddr 1 (.t 19) (.t 21)⟩,
   ⟨(some 23), none, .load false 1 (.t 22)⟩,
   ⟨(some 24), none, .indexAddr 3 (.t 15) (.t 23)⟩,
   ⟨(some 25), none, .move (.t 0)⟩,
   ⟨(some 26), none, .nilCheck (.t 25)⟩,
   ⟨(some 27), none, .fieldAddr 0 (.t 26)⟩,
   ⟨(some 28), none, .load false 1 (.t 27)⟩,
   ⟨(some 29), none, .move (.t 1)⟩,
   ⟨(some 30), none, .nilCheck (.t 29)⟩,
   ⟨(some 31), none, .fieldAddr 2 (.t 30)⟩,
   ⟨(some 32), none, .load false 1 (.t 31)⟩,
   ⟨(some 33), none, .move (.t 2)⟩,
   ⟨(some 34), none, .indexAddr 1 (.t 32) (.t 33)⟩,
   ⟨(some 35), none, .load false 1 (.t 34)⟩,
   ⟨(some 36), none, .indexAddr 3 (.t 28) (.t 35)⟩,
   ⟨(some 6), none, .move (.t 24)⟩,
   ⟨(some 7), none, .move (.t 36)⟩] (some [0, 1, 2, 6, 7]))
 (.seq (.seq (.ops [⟨(some 37), none, .move (.t 6)⟩,
   ⟨(some 38), none, .call (.c (.func (.func 37) #[] #[])) [(.t 37)]⟩,
   ⟨(some 39), none, .move (.t 7)⟩,
   ⟨(some 40), none, .call (.c (.func (.func 37) #[] #[])) [(.t 39)]⟩,
   ⟨(some 41), none, .bin .add 3 (.t 38) (.t 40)⟩,
   ⟨(some 42), none, .bin .leq 3 (.t 41) (.c (.int .i64 4))⟩] (some [0, 1, 2, 6, 7, 42]))
 (.cond (.t 42)
  (.seq (.ops [⟨(some 43), none, .move (.t 0)⟩,
    ⟨(some 44), none, .move (.t 1)⟩,
    ⟨(some 45), none, .move (.t 2)⟩,
    ⟨(some 46), none, .call (.c (.func (.func 72) #[] #[])) [(.t 43), (.t 44), (.t 45)]⟩] (some []))
  .ret)
  .skip))
 (.seq (.seq (.ops [⟨(some 47), none, .move (.t 6)⟩,
   ⟨(some 48), none, .call (.c (.func (.func 41) #[] #[])) [(.t 47)]⟩,
   ⟨(some 49), none, .un .not (.t 48)⟩] (some [1, 2, 6, 7, 49]))
 (.cond (.t 49)
  (.opsd [(0, 0, ⟨(some 50), none, .move (.t 6)⟩),
    (1, 0, ⟨(some 51), none, .move (.t 6)⟩),
    (2, 2, ⟨(some 52), none, .nilCheck (.t 51)⟩),
    (3, 6, ⟨(some 53), none, .fieldAddr 0 (.t 52)⟩),
    (4, 14, ⟨(some 54), none, .load false 1 (.t 53)⟩),
    (5, 0, ⟨(some 55), none, .move (.t 1)⟩),
    (6, 32, ⟨(some 56), none, .nilCheck (.t 55)⟩),
    (7, 96, ⟨(some 57), none, .fieldAddr 0 (.t 56)⟩),
    (8, 224, ⟨(some 58), none, .load false 1 (.t 57)⟩),
    (9, 0, ⟨(some 59), none, .move (.t 2)⟩),
    (10, 512, ⟨(some 60), none, .bin .sub 3 (.t 59) (.c (.int .i64 1))⟩),
    (11, 2016, ⟨(some 61), none, .indexAddr 1 (.t 58) (.t 60)⟩),
    (12, 4064, ⟨(some 62), none, .load false 1 (.t 61)⟩),
    (13, 8160, ⟨(some 63), none, .buildSlice [(.string .empty)] 1 1 [(0, (.t 62))]⟩),
    (14, 16382, ⟨(some 64), none, .append 1 16 [(.string .empty)] (.t 54) (.t 63)⟩),
    (15, 32767, ⟨(some 65), none, .nilCheck (.t 50)⟩),
    (16, 65535, ⟨(some 66), none, .fieldAddr 0 (.t 65)⟩),
    (17, 131071, ⟨none, none, .store 1 (.t 66) (.t 64)⟩)] (some [1, 2, 6, 7]))
  .skip))
 (.seq (.opsd [(0, 0, ⟨(some 67), none, .move (.t 6)⟩),
   (1, 1, ⟨(some 68), none, .nilCheck (.t 67)⟩),
   (2, 3, ⟨(some 69), none, .fieldAddr 0 (.t 68)⟩),
   (3, 7, ⟨(some 70), none, .load false 1 (.t 69)⟩),
   (4, 0, ⟨(some 71), none, .move (.t 7)⟩),
   (5, 16, ⟨(some 72), none, .nilCheck (.t 71)⟩),
   (6, 48, ⟨(some 73), none, .fieldAddr 0 (.t 72)⟩),
   (7, 112, ⟨(some 74), none, .load false 1 (.t 73)⟩),
   (8, 255, ⟨(some 75), none, .buildSlice [(.slice none 0 0)] 1 2 [(0, (.t 70)), (1, (.t 74))]⟩),
   (9, 511, ⟨(some 76), none, .call (.c (.func (.func 73) #[] #[])) [(.t 75)]⟩),
   (10, 1023, ⟨(some 8), none, .move (.t 76)⟩)] (some [1, 2, 6, 7, 8]))
 (.seq (.opsd [(0, 0, ⟨(some 77), none, .move (.t 6)⟩),
   (1, 1, ⟨(some 78), none, .nilCheck (.t 77)⟩),
   (2, 3, ⟨(some 79), none, .fieldAddr 1 (.t 78)⟩),
   (3, 7, ⟨(some 80), none, .load false 1 (.t 79)⟩),
   (4, 0, ⟨(some 81), none, .move (.t 7)⟩),
   (5, 16, ⟨(some 82), none, .nilCheck (.t 81)⟩),
   (6, 48, ⟨(some 83), none, .fieldAddr 1 (.t 82)⟩),
   (7, 112, ⟨(some 84), none, .load false 1 (.t 83)⟩),
   (8, 255, ⟨(some 85), none, .buildSlice [(.slice none 0 0)] 1 2 [(0, (.t 80)), (1, (.t 84))]⟩),
   (10, 0, ⟨(some 87), none, .move (.t 6)⟩),
   (11, 1024, ⟨(some 88), none, .nilCheck (.t 87)⟩),
   (12, 3072, ⟨(some 89), none, .fieldAddr 2 (.t 88)⟩),
   (13, 7168, ⟨(some 90), none, .load false 1 (.t 89)⟩),
   (14, 0, ⟨(some 91), none, .move (.t 7)⟩),
   (15, 16384, ⟨(some 92), none, .nilCheck (.t 91)⟩),
   (16, 49152, ⟨(some 93), none, .fieldAddr 2 (.t 92)⟩),
   (17, 114688, ⟨(some 94), none, .load false 1 (.t 93)⟩),
   (18, 261120, ⟨(some 95), none, .buildSlice [(.slice none 0 0)] 1 2 [(0, (.t 90)), (1, (.t 94))]⟩),
   (9, 511, ⟨(some 86), none, .call (.c (.func (.func 74) #[] #[])) [(.t 85)]⟩),
   (19, 524287, ⟨(some 96), none, .call (.c (.func (.func 74) #[] #[])) [(.t 95)]⟩),
   (20, 1048575, ⟨(some 9), none, .move (.t 86)⟩),
   (21, 2097151, ⟨(some 10), none, .move (.t 96)⟩)] (some [1, 2, 6, 7, 8, 9, 10]))
 (.seq (.ops [⟨(some 97), none, .move (.t 6)⟩,
   ⟨(some 98), none, .call (.c (.func (.func 37) #[] #[])) [(.t 97)]⟩,
   ⟨(some 99), none, .move (.t 7)⟩,
   ⟨(some 100), none, .call (.c (.func (.func 37) #[] #[])) [(.t 99)]⟩,
   ⟨(some 101), none, .bin .add 3 (.t 98) (.t 100)⟩,
   ⟨(some 102), none, .bin .quo 3 (.t 101) (.c (.int .i64 2))⟩,
   ⟨(some 11), none, .move (.t 102)⟩] (some [1, 2, 6, 7, 8, 9, 10, 11]))
 (.seq (.seq (.ops [⟨(some 103), none, .move (.t 6)⟩,
   ⟨(some 104), none, .call (.c (.func (.func 41) #[] #[])) [(.t 103)]⟩] (some [1, 2, 6, 7, 8, 9, 10, 11, 104]))
 (.cond (.t 104)
  (.seq (.opsd [(0, 0, ⟨(some 105), none, .move (.t 6)⟩),
    (1, 0, ⟨(some 106), none, .move (.t 8)⟩),
    (2, 0, ⟨(some 107), none, .move (.t 11)⟩),
    (3, 6, ⟨(some 108), none, .slice 1 (.t 106) none (some (.t 107)) none⟩),
    (5, 0, ⟨(some 110), none, .move (.t 9)⟩),
    (6, 0, ⟨(some 111), none, .move (.t 11)⟩),
    (7, 96, ⟨(some 112), none, .slice 1 (.t 110) none (some (.t 111)) none⟩),
    (4, 14, ⟨(some 109), none, .call (.c (.func (.func 55) #[] #[])) [(.t 108)]⟩),
    (8, 254, ⟨(some 113), none, .call (.c (.func (.func 56) #[] #[])) [(.t 112)]⟩),
    (9, 510, ⟨(some 114), none, .build [(.slice none 0 0), (.slice none 0 0), (.slice none 0 0)] [(0, 1), (1, 1), (2, 1)] [(0, (.t 109)), (1, (.t 113))]⟩),
    (10, 1023, ⟨(some 115), none, .nilCheck (.t 105)⟩),
    (11, 2047, ⟨none, none, .store 3 (.t 115) (.t 114)⟩)] (some [1, 2, 7, 8, 9, 11]))
  (.seq (.opsd [(0, 0, ⟨(some 116), none, .move (.t 7)⟩),
    (1, 0, ⟨(some 117), none, .move (.t 8)⟩),
    (2, 0, ⟨(some 118), none, .move (.t 11)⟩),
    (3, 6, ⟨(some 119), none, .slice 1 (.t 117) (some (.t 118)) none none⟩),
    (5, 0, ⟨(some 121), none, .move (.t 9)⟩),
    (6, 0, ⟨(some 122), none, .move (.t 11)⟩),
    (7, 96, ⟨(some 123), none, .slice 1 (.t 121) (some (.t 122)) none none⟩),
    (4, 14, ⟨(some 120), none, .call (.c (.func (.func 55) #[] #[])) [(.t 119)]⟩),
    (8, 254, ⟨(some 124), none, .call (.c (.func (.func 56) #[] #[])) [(.t 123)]⟩),
    (9, 510, ⟨(some 125), none, .build [(.slice none 0 0), (.slice none 0 0), (.slice none 0 0)] [(0, 1), (1, 1), (2, 1)] [(0, (.t 120)), (1, (.t 124))]⟩),
    (10, 1023, ⟨(some 126), none, .nilCheck (.t 116)⟩),
    (11, 2047, ⟨none, none, .store 3 (.t 126) (.t 125)⟩)] (some [1, 2, 8, 11]))
  (.seq (.opsd [(0, 0, ⟨(some 127), none, .move (.t 1)⟩),
    (1, 1, ⟨(some 128), none, .nilCheck (.t 127)⟩),
    (2, 3, ⟨(some 129), none, .fieldAddr 0 (.t 128)⟩),
    (3, 7, ⟨(some 130), none, .load false 1 (.t 129)⟩),
    (4, 0, ⟨(some 131), none, .move (.t 2)⟩),
    (5, 16, ⟨(some 132), none, .bin .sub 3 (.t 131) (.c (.int .i64 1))⟩),
    (6, 0, ⟨(some 133), none, .move (.t 8)⟩),
    (7, 0, ⟨(some 134), none, .move (.t 11)⟩),
    (8, 192, ⟨(some 135), none, .indexAddr 1 (.t 133) (.t 134)⟩),
    (9, 448, ⟨(some 136), none, .load false 1 (.t 135)⟩),
    (10, 1023, ⟨(some 137), none, .indexAddr 1 (.t 130) (.t 132)⟩),
    (11, 2047, ⟨none, none, .store 1 (.t 137) (.t 136)⟩)] (some []))
  .ret)))
  .skip))
 (.seq (.opsd [(0, 0, ⟨(some 138), none, .move (.t 6)⟩),
   (1, 0, ⟨(some 139), none, .move (.t 8)⟩),
   (2, 0, ⟨(some 140), none, .move (.t 11)⟩),
   (3, 4, ⟨(some 141), none, .bin .sub 3 (.t 140) (.c (.int .i64 1))⟩),
   (4, 14, ⟨(some 142), none, .slice 1 (.t 139) none (some (.t 141)) none⟩),
   (6, 0, ⟨(some 144), none, .move (.t 10)⟩),
   (7, 0, ⟨(some 145), none, .move (.t 11)⟩),
   (8, 192, ⟨(some 146), none, .slice 1 (.t 144) none (some (.t 145)) none⟩),
   (5, 30, ⟨(some 143), none, .call (.c (.func (.func 55) #[] #[])) [(.t 142)]⟩),
   (9, 510, ⟨(some 147), none, .call (.c (.func (.func 56) #[] #[])) [(.t 146)]⟩),
   (10, 1022, ⟨(some 148), none, .build [(.slice none 0 0), (.slice none 0 0), (.slice none 0 0)] [(0, 1), (1, 1), (2, 1)] [(0, (.t 143)), (2, (.t 147))]⟩),
   (11, 2047, ⟨(some 149), none, .nilCheck (.t 138)⟩),
   (12, 4095, ⟨none, none, .store 3 (.t 149) (.t 148)⟩)] (some [1, 2, 7, 8, 10, 11]))
 (.seq (.opsd [(0, 0, ⟨(some 150), none, .move (.t 7)⟩),
   (1, 0, ⟨(some 151), none, .move (.t 8)⟩),
   (2, 0, ⟨(some 152), none, .move (.t 11)⟩),
   (3, 6, ⟨(some 153), none, .slice 1 (.t 151) (some (.t 152)) none none⟩),
   (5, 0, ⟨(some 155), none, .move (.t 10)⟩),
   (6, 0, ⟨(some 156), none, .move (.t 11)⟩),
   (7, 96, ⟨(some 157), none, .slice 1 (.t 155) (some (.t 156)) none none⟩),
   (4, 14, ⟨(some 154), none, .call (.c (.func (.func 55) #[] #[])) [(.t 153)]⟩),
   (8, 254, ⟨(some 158), none, .call (.c (.func (.func 56) #[] #[])) [(.t 157)]⟩),
   (9, 510, ⟨(some 159), none, .build [(.slice none 0 0), (.slice none 0 0), (.slice none 0 0)] [(0, 1), (1, 1), (2, 1)] [(0, (.t 154)), (2, (.t 158))]⟩),
   (10, 1023, ⟨(some 160), none, .nilCheck (.t 150)⟩),
   (11, 2047, ⟨none, none, .store 3 (.t 160) (.t 159)⟩)] (some [1, 2, 8, 11]))
 (.opsd [(0, 0, ⟨(some 161), none, .move (.t 1)⟩),
   (1, 1, ⟨(some 162), none, .nilCheck (.t 161)⟩),
   (2, 3, ⟨(some 163), none, .fieldAddr 0 (.t 162)⟩),
   (3, 7, ⟨(some 164), none, .load false 1 (.t 163)⟩),
   (4, 0, ⟨(some 165), none, .move (.t 2)⟩),
   (5, 16, ⟨(some 166), none, .bin .sub 3 (.t 165) (.c (.int .i64 1))⟩),
   (6, 0, ⟨(some 167), none, .move (.t 8)⟩),
   (7, 0, ⟨(some 168), none, .move (.t 11)⟩),
   (8, 128, ⟨(some 169), none, .bin .sub 3 (.t 168) (.c (.int .i64 1))⟩),
   (9, 448, ⟨(some 170), none, .indexAddr 1 (.t 167) (.t 169)⟩),
   (10, 960, ⟨(some 171), none, .load false 1 (.t 170)⟩),
   (11, 2047, ⟨(some 172), none, .indexAddr 1 (.t 164) (.t 166)⟩),
   (12, 4095, ⟨none, none, .store 1 (.t 172) (.t 171)⟩)] (some []))))))))))), []⟩

/-- (*cloisonne/tree.Tree).edge -/
def x60 : XDecl := .code ⟨3, 
 (.seq (.ops [⟨(some 6), none, .move (.c (.string .empty))⟩,
   ⟨(some 7), none, .move (.c (.int .i64 0))⟩,
   ⟨(some 8), none, .move (.c (.bool false))⟩] (some [0, 1, 2]))
 (.seq (.ops [⟨(some 12), none, .move (.t 0)⟩,
   ⟨(some 13), none, .nilCheck (.t 12)⟩,
   ⟨(some 14), none, .fieldAddr 0 (.t 13)⟩,
   ⟨(some 15), none, .load false 1 (.t 14)⟩,
   ⟨(some 16), none, .move (.t 1)⟩,
   ⟨(some 17), none, .indexAddr 3 (.t 15) (.t 16)⟩,
   ⟨(some 9), none, .move (.t 17)⟩] (some [0, 2, 9]))
 (.seq (.block 0
  (.loop
   (.seq (.seq (.ops [⟨(some 18), none, .move (.t 9)⟩,
     ⟨(some 19), none, .call (.c (.func (.func 41) #[] #[])) [(.t 18)]⟩,
     ⟨(some 20), none, .un .not (.t 19)⟩] (some [0, 2, 9, 20]))
   (.cond (.t 20)
    .skip
    (.exit 0)))
   (.block 1
    (.seq (.ops [⟨(some 10), none, .move (.c (.int .i64 0))⟩] (some [0, 2, 9, 10]))
    (.seq (.seq (.ops [⟨(some 21), none, .move (.t 2)⟩] (some [0, 2, 9, 10, 21]))
    (.cond (.t 21)
     (.ops [⟨(some 22), none, .move (.t 9)⟩,
       ⟨(some 23), none, .nilCheck (.t 22)⟩,
       ⟨(some 24), none, .fieldAddr 2 (.t 23)⟩,
       ⟨(some 25), none, .load false 1 (.t 24)⟩,
       ⟨(some 26), none, .len (.t 25)⟩,
       ⟨(some 27), none, .bin .sub 3 (.t 26) (.c (.int .i64 1))⟩,
       ⟨(some 10), none, .move (.t 27)⟩] (some [0, 2, 9, 10]))
     .skip))
    (.opsr [⟨(some 28), none, .move (.t 0)⟩,
      ⟨(some 29), none, .nilCheck (.t 28)⟩,
      ⟨(some 30), none, .fieldAddr 0 (.t 29)⟩,
      ⟨(some 31), none, .load false 1 (.t 30)⟩,
      ⟨(some 32), none, .move (.t 9)⟩,
      ⟨(some 33), none, .nilCheck (.t 32)⟩,
      ⟨(some 34), none, .fieldAddr 2 (.t 33)⟩,
      ⟨(some 35), none, .load false 1 (.t 34)⟩,
      ⟨(some 36), none, .move (.t 10)⟩,
      ⟨(some 37), none, .indexAddr 1 (.t 35) (.t 36)⟩,
      ⟨(some 38), none, .load false 1 (.t 37)⟩,
      ⟨(some 39), none, .indexAddr 3 (.t 31) (.t 38)⟩,
      ⟨(some 9), none, .move (.t 39)⟩] (some [0, 2, 9]))))))))
 (.seq (.ops [⟨(some 11), none, .move (.c (.int .i64 0))⟩] (some [2, 9, 11]))
 (.seq (.seq (.ops [⟨(some 40), none, .move (.t 2)⟩] (some [9, 11, 40]))
 (.cond (.t 40)
  (.ops [⟨(some 41), none, .move (.t 9)⟩,
    ⟨(some 42), none, .nilCheck (.t 41)⟩,
    ⟨(some 43), none, .fieldAddr 0 (.t 42)⟩,
    ⟨(some 44), none, .load false 1 (.t 43)⟩,
    ⟨(some 45), none, .len (.t 44)⟩,
    ⟨(some 46), none, .bin .sub 3 (.t 45) (.c (.int .i64 1))⟩,
    ⟨(some 11), none, .move (.t 46)⟩] (some [9, 11]))
  .skip))
 (.seq (.opsr [⟨(some 47), none, .move (.t 9)⟩,
   ⟨(some 48), none, .nilCheck (.t 47)⟩,
   ⟨(some 49), none, .fieldAddr 0 (.t 48)⟩,
   ⟨(some 50), none, .load false 1 (.t 49)⟩,
   ⟨(some 51), none, .move (.t 11)⟩,
   ⟨(some 52), none, .indexAddr 1 (.t 50) (.t 51)⟩,
   ⟨(some 53), none, .load false 1 (.t 52)⟩,
   ⟨(some 54), none, .move (.t 9)⟩,
   ⟨(some 55), none, .nilCheck (.t 54)⟩,
   ⟨(some 56), none, .fieldAddr 1 (.t 55)⟩,
   ⟨(some 57), none, .load false 1 (.t 56)⟩,
   ⟨(some 58), none, .move (.t 11)⟩,
   ⟨(some 59), none, .indexAddr 1 (.t 57) (.t 58)⟩,
   ⟨(some 60), none, .load false 1 (.t 59)⟩,
   ⟨(some 6), none, .move (.t 53)⟩,
   ⟨(some 7), none, .move (.t 60)⟩,
   ⟨(some 8), none, .move (.c (.bool true))⟩] (some [6, 7, 8]))
 .ret)))))), [.tmp 6, .tmp 7, .tmp 8]⟩

/-- cmp.Less[string] -/
def x66 : XDecl := .code ⟨2, 
 (.seq (.ops [⟨(some 4), none, .move (.c (.bool false))⟩] (some [0, 1]))
 (.seq (.ops [⟨(some 5), none, .move (.t 0)⟩,
   ⟨(some 6), none, .call (.c (.func (.func 80) #[] #[])) [(.t 5)]⟩,
   ⟨(some 7), none, .move (.t 6)⟩,
   ⟨(some 8), (some (7, true)), .move (.t 1)⟩,
   ⟨(some 9), (some (7, true)), .call (.c (.func (.func 80) #[] #[])) [(.t 8)]⟩,
   ⟨(some 10), (some (7, true)), .un .not (.t 9)⟩,
   ⟨(some 11), none, .pick (.t 7) (.t 10) (.c (.bool false))⟩,
   ⟨(some 12), none, .move (.t 11)⟩,
   ⟨(some 13), (some (12, false)), .move (.t 0)⟩,
   ⟨(some 14), (some (12, false)), .move (.t 1)⟩,
   ⟨(some 15), (some (12, false)), .bin .lss 9 (.t 13) (.t 14)⟩,
   ⟨(some 16), none, .pick (.t 12) (.c (.bool true)) (.t 15)⟩,
   ⟨(some 4), none, .move (.t 16)⟩] (some [4]))
 .ret)), [.tmp 4]⟩

/-- slices.isNaN[string] -/
def x67 : XDecl := .code ⟨1, 
 (.seq (.ops [⟨(some 2), none, .move (.c (.bool false))⟩] (some [0]))
 (.seq (.ops [⟨(some 3), none, .move (.t 0)⟩,
   ⟨(some 4), none, .move (.t 0)⟩,
   ⟨(some 5), none, .bin .neq 9 (.t 3) (.t 4)⟩,
   ⟨(some 2), none, .move (.t 5)⟩] (some [2]))
 .ret)), [.tmp 2]⟩

-- 68 slices.overlaps[string]: no body
def x68 : XDecl := .ext 68

/-- slices.rotateRight[string] -/
def x69 : XDecl := .code ⟨2, 
 (.ops [⟨(some 4), none, .move (.t 0)⟩,
   ⟨(some 5), none, .move (.t 0)⟩,
   ⟨(some 6), none, .len (.t 5)⟩,
   ⟨(some 7), none, .move (.t 1)⟩,
   ⟨(some 8), none, .bin .sub 3 (.t 6) (.t 7)⟩,
   ⟨(some 9), none, .call (.c (.func (.func 81) #[] #[])) [(.t 4), (.t 8)]⟩] (some [])), []⟩

-- 70 slices.overlaps[int]: no body
def x70 : XDecl := .ext 70

/-- slices.rotateRight[int] -/
def x71 : XDecl := .code ⟨2, 
 (.ops [⟨(some 4), none, .move (.t 0)⟩,
   ⟨(some 5), none, .move (.t 0)⟩,
   ⟨(some 6), none, .len (.t 5)⟩,
   ⟨(some 7), none, .move (.t 1)⟩,
   ⟨(some 8), none, .bin .sub 3 (.t 6) (.t 7)⟩,
   ⟨(some 9), none, .call (.c (.func (.func 82) #[] #[])) [(.t 4), (.t 8)]⟩] (some [])), []⟩

/-- (*cloisonne/tree.Tree).join -/
def x72 : XDecl := .code ⟨3, 
 (.seq (.ops [⟨(some 9), none, .move (.t 1)⟩,
   ⟨(some 10), none, .nilCheck (.t 9)⟩,
   ⟨(some 11), none, .fieldAddr 2 (.t 10)⟩,
   ⟨(some 12), none, .load false 1 (.t 11)⟩,
   ⟨(some 13), none, .move (.t 2)⟩,
   ⟨(some 14), none, .indexAddr 1 (.t 12) (.t 13)⟩,
   ⟨(some 15), none, .load false 1 (.t 14)⟩,
   ⟨(some 6), none, .move (.t 15)⟩] (some [0, 1, 2, 6]))
 (.seq (.opsd [(0, 0, ⟨(some 16), none, .move (.t 0)⟩),
   (1, 1, ⟨(some 17), none, .nilCheck (.t 16)⟩),
   (2, 3, ⟨(some 18), none, .fieldAddr 0 (.t 17)⟩),
   (3, 7, ⟨(some 19), none, .load false 1 (.t 18)⟩),
   (4, 0, ⟨(some 20), none, .move (.t 1)⟩),
   (5, 16, ⟨(some 21), none, .nilCheck (.t 20)⟩),
   (6, 48, ⟨(some 22), none, .fieldAddr 2 (.t 21)⟩),
   (7, 112, ⟨(some 23), none, .load false 1 (.t 22)⟩),
   (8, 0, ⟨(some 24), none, .move (.t 2)⟩),
   (9, 256, ⟨(some 25), none, .bin .sub 3 (.t 24) (.c (.int .i64 1))⟩),
   (10, 1008, ⟨(some 26), none, .indexAddr 1 (.t 23) (.t 25)⟩),
   (11, 2032, ⟨(some 27), none, .load false 1 (.t 26)⟩),
   (12, 4095, ⟨(some 28), none, .indexAddr 3 (.t 19) (.t 27)⟩),
   (13, 0, ⟨(some 29), none, .move (.t 0)⟩),
   (14, 8192, ⟨(some 30), none, .nilCheck (.t 29)⟩),
   (15, 24576, ⟨(some 31), none, .fieldAddr 0 (.t 30)⟩),
   (16, 57344, ⟨(some 32), none, .load false 1 (.t 31)⟩),
   (17, 0, ⟨(some 33), none, .move (.t 6)⟩),
   (18, 253952, ⟨(some 34), none, .indexAddr 3 (.t 32) (.t 33)⟩),
   (19, 516096, ⟨(some 35), none, .load true 3 (.t 34)⟩),
   (20, 0, ⟨(some 8), none, .alloc [(.slice none 0 0), (.slice none 0 0), (.slice none 0 0)]⟩),
   (21, 1056767, ⟨(some 7), none, .move (.t 28)⟩),
   (22, 4194303, ⟨none, none, .store 3 (.t 8) (.t 35)⟩)] (some [0, 1, 2, 6, 7, 8]))
 (.seq (.seq (.ops [⟨(some 36), none, .move (.t 7)⟩,
   ⟨(some 37), none, .call (.c (.func (.func 41) #[] #[])) [(.t 36)]⟩,
   ⟨(some 38), none, .un .not (.t 37)⟩] (some [0, 1, 2, 6, 7, 8, 38]))
 (.cond (.t 38)
  (.opsd [(0, 0, ⟨(some 39), none, .move (.t 7)⟩),
    (1, 0, ⟨(some 40), none, .move (.t 7)⟩),
    (2, 2, ⟨(some 41), none, .nilCheck (.t 40)⟩),
    (3, 6, ⟨(some 42), none, .fieldAddr 0 (.t 41)⟩),
    (4, 14, ⟨(some 43), none, .load false 1 (.t 42)⟩),
    (5, 0, ⟨(some 44), none, .move (.t 1)⟩),
    (6, 32, ⟨(some 45), none, .nilCheck (.t 44)⟩),
    (7, 96, ⟨(some 46), none, .fieldAddr 0 (.t 45)⟩),
    (8, 224, ⟨(some 47), none, .load false 1 (.t 46)⟩),
    (9, 0, ⟨(some 48), none, .move (.t 2)⟩),
    (10, 512, ⟨(some 49), none, .bin .sub 3 (.t 48) (.c (.int .i64 1))⟩),
    (11, 2016, ⟨(some 50), none, .indexAddr 1 (.t 47) (.t 49)⟩),
    (12, 4064, ⟨(some 51), none, .load false 1 (.t 50)⟩),
    (13, 8160, ⟨(some 52), none, .buildSlice [(.string .empty)] 1 1 [(0, (.t 51))]⟩),
    (14, 16382, ⟨(some 53), none, .append 1 16 [(.string .empty)] (.t 43) (.t 52)⟩),
    (15, 32767, ⟨(some 54), none, .nilCheck (.t 39)⟩),
    (16, 65535, ⟨(some 55), none, .fieldAddr 0 (.t 54)⟩),
    (17, 131071, ⟨none, none, .store 1 (.t 55) (.t 53)⟩)] (some [0, 1, 2, 6, 7, 8]))
  .skip))
 (.seq (.opsd [(0, 0, ⟨(some 56), none, .move (.t 7)⟩),
   (1, 0, ⟨(some 57), none, .move (.t 7)⟩),
   (2, 0, ⟨(some 58), none, .move (.t 7)⟩),
   (3, 0, ⟨(some 59), none, .move (.t 7)⟩),
   (4, 8, ⟨(some 60), none, .nilCheck (.t 59)⟩),
   (5, 24, ⟨(some 61), none, .fieldAddr 0 (.t 60)⟩),
   (6, 56, ⟨(some 62), none, .load false 1 (.t 61)⟩),
   (7, 0, ⟨(some 63), none, .fieldAddr 0 (.t 8)⟩),
   (8, 128, ⟨(some 64), none, .load false 1 (.t 63)⟩),
   (10, 0, ⟨(some 66), none, .move (.t 7)⟩),
   (11, 1024, ⟨(some 67), none, .nilCheck (.t 66)⟩),
   (12, 3072, ⟨(some 68), none, .fieldAddr 1 (.t 67)⟩),
   (13, 7168, ⟨(some 69), none, .load false 1 (.t 68)⟩),
   (14, 0, ⟨(some 70), none, .fieldAddr 1 (.t 8)⟩),
   (15, 16384, ⟨(some 71), none, .load false 1 (.t 70)⟩),
   (17, 0, ⟨(some 73), none, .move (.t 7)⟩),
   (18, 131072, ⟨(some 74), none, .nilCheck (.t 73)⟩),
   (19, 393216, ⟨(some 75), none, .fieldAddr 2 (.t 74)⟩),
   (20, 917504, ⟨(some 76), none, .load false 1 (.t 75)⟩),
   (21, 0, ⟨(some 77), none, .fieldAddr 2 (.t 8)⟩),
   (22, 2097152, ⟨(some 78), none, .load false 1 (.t 77)⟩),
   (9, 504, ⟨(some 65), none, .append 1 16 [(.string .empty)] (.t 62) (.t 64)⟩),
   (16, 65528, ⟨(some 72), none, .append 1 8 [(.int .i64 0)] (.t 69) (.t 71)⟩),
   (23, 8388600, ⟨(some 79), none, .append 1 8 [(.int .i64 0)] (.t 76) (.t 78)⟩),
   (24, 16777209, ⟨(some 80), none, .nilCheck (.t 56)⟩),
   (25, 33554425, ⟨(some 81), none, .fieldAddr 0 (.t 80)⟩),
   (26, 67108857, ⟨none, none, .store 1 (.t 81) (.t 65)⟩),
   (27, 134217723, ⟨(some 82), none, .nilCheck (.t 57)⟩),
   (28, 268435451, ⟨(some 83), none, .fieldAddr 1 (.t 82)⟩),
   (29, 536870907, ⟨none, none, .store 1 (.t 83) (.t 72)⟩),
   (30, 1073741823, ⟨(some 84), none, .nilCheck (.t 58)⟩),
   (31, 2147483647, ⟨(some 85), none, .fieldAddr 2 (.t 84)⟩),
   (32, 4294967295, ⟨none, none, .store 1 (.t 85) (.t 79)⟩)] (some [0, 1, 2, 6]))
 (.seq (.opsd [(0, 0, ⟨(some 86), none, .move (.t 1)⟩),
   (1, 0, ⟨(some 87), none, .move (.t 1)⟩),
   (2, 0, ⟨(some 88), none, .move (.t 1)⟩),
   (3, 4, ⟨(some 89), none, .nilCheck (.t 88)⟩),
   (4, 12, ⟨(some 90), none, .fieldAddr 0 (.t 89)⟩),
   (5, 28, ⟨(some 91), none, .load false 1 (.t 90)⟩),
   (6, 0, ⟨(some 92), none, .move (.t 2)⟩),
   (7, 64, ⟨(some 93), none, .bin .sub 3 (.t 92) (.c (.int .i64 1))⟩),
   (8, 0, ⟨(some 94), none, .move (.t 2)⟩),
   (10, 0, ⟨(some 96), none, .move (.t 1)⟩),
   (11, 1024, ⟨(some 97), none, .nilCheck (.t 96)⟩),
   (12, 3072, ⟨(some 98), none, .fieldAddr 2 (.t 97)⟩),
   (13, 7168, ⟨(some 99), none, .load false 1 (.t 98)⟩),
   (14, 0, ⟨(some 100), none, .move (.t 2)⟩),
   (15, 0, ⟨(some 101), none, .move (.t 2)⟩),
   (16, 32768, ⟨(some 102), none, .bin .add 3 (.t 101) (.c (.int .i64 1))⟩),
   (9, 508, ⟨(some 95), none, .call (.c (.func (.func 57) #[] #[])) [(.t 91), (.t 93), (.t 94)]⟩),
   (17, 131068, ⟨(some 103), none, .call (.c (.func (.func 58) #[] #[])) [(.t 99), (.t 100), (.t 102)]⟩),
   (18, 262141, ⟨(some 104), none, .nilCheck (.t 86)⟩),
   (19, 524285, ⟨(some 105), none, .fieldAddr 0 (.t 104)⟩),
   (20, 1048573, ⟨none, none, .store 1 (.t 105) (.t 95)⟩),
   (21, 2097151, ⟨(some 106), none, .nilCheck (.t 87)⟩),
   (22, 4194303, ⟨(some 107), none, .fieldAddr 2 (.t 106)⟩),
   (23, 8388607, ⟨none, none, .store 1 (.t 107) (.t 103)⟩)] (some [0, 6]))
 (.ops [⟨(some 108), none, .move (.t 0)⟩,
   ⟨(some 109), none, .move (.t 6)⟩,
   ⟨(some 110), none, .call (.c (.func (.func 40) #[] #[])) [(.t 108), (.t 109)]⟩] (some []))))))), []⟩

/-- slices.Concat[[]string,string] -/
def x73 : XDecl := .code ⟨1, 
 (.seq (.ops [⟨(some 2), none, .move (.c (.slice none 0 0))⟩] (some [0]))
 (.seq (.ops [⟨(some 3), none, .move (.c (.int .i64 0))⟩] (some [0, 3]))
 (.seq (.seq (.ops [⟨(some 9), none, .move (.t 0)⟩,
   ⟨(some 10), none, .len (.t 9)⟩,
   ⟨(some 11), none, .move (.c (.int .i64 0))⟩] (some [0, 3, 9, 10, 11]))
 (.block 0
  (.loop
   (.seq (.ops [⟨(some 12), none, .bin .lss 3 (.t 11) (.t 10)⟩] (some [0, 3, 9, 10, 11, 12]))
   (.seq (.cond (.t 12)
    .skip
    (.exit 0))
   (.seq (.block 1
    (.seq (.ops [⟨(some 13), none, .indexAddr 1 (.t 9) (.t 11)⟩,
      ⟨(some 14), none, .load false 1 (.t 13)⟩,
      ⟨(some 5), none, .move (.t 14)⟩] (some [0, 3, 5, 9, 10, 11]))
    (.seq (.ops [⟨(some 15), none, .move (.t 3)⟩,
      ⟨(some 16), none, .move (.t 5)⟩,
      ⟨(some 17), none, .len (.t 16)⟩,
      ⟨(some 18), none, .bin .add 3 (.t 15) (.t 17)⟩,
      ⟨(some 3), none, .move (.t 18)⟩] (some [0, 3, 9, 10, 11]))
    (.seq (.ops [⟨(some 19), none, .move (.t 3)⟩,
      ⟨(some 20), none, .bin .lss 3 (.t 19) (.c (.int .i64 0))⟩] (some [0, 3, 9, 10, 11, 20]))
    (.cond (.t 20)
     (.ops [⟨(some 21), none, .fail⟩,
       ⟨none, none, .fail⟩] (some [0, 3, 9, 10, 11]))
     .skip)))))
   (.ops [⟨(some 22), none, .bin .add 3 (.t 11) (.c (.int .i64 1))⟩,
     ⟨(some 11), none, .move (.t 22)⟩] (some [0, 3, 9, 10, 11]))))))))
 (.seq (.ops [⟨(some 23), none, .move (.t 3)⟩,
   ⟨(some 24), none, .call (.c (.func (.func 83) #[] #[])) [(.c (.slice none 0 0)), (.t 23)]⟩,
   ⟨(some 6), none, .move (.t 24)⟩] (some [0, 6]))
 (.seq (.seq (.ops [⟨(some 25), none, .move (.t 0)⟩,
   ⟨(some 26), none, .len (.t 25)⟩,
   ⟨(some 27), none, .move (.c (.int .i64 0))⟩] (some [6, 25, 26, 27]))
 (.block 2
  (.loop
   (.seq (.ops [⟨(some 28), none, .bin .lss 3 (.t 27) (.t 26)⟩] (some [6, 25, 26, 27, 28]))
   (.seq (.cond (.t 28)
    .skip
    (.exit 2))
   (.seq (.block 3
    (.seq (.ops [⟨(some 29), none, .indexAddr 1 (.t 25) (.t 27)⟩,
      ⟨(some 30), none, .load false 1 (.t 29)⟩,
      ⟨(some 8), none, .move (.t 30)⟩] (some [6, 8, 25, 26, 27]))
    (.ops [⟨(some 31), none, .move (.t 6)⟩,
      ⟨(some 32), none, .move (.t 8)⟩,
      ⟨(some 33), none, .append 1 16 [(.string .empty)] (.t 31) (.t 32)⟩,
      ⟨(some 6), none, .move (.t 33)⟩] (some [6, 25, 26, 27]))))
   (.ops [⟨(some 34), none, .bin .add 3 (.t 27) (.c (.int .i64 1))⟩,
     ⟨(some 27), none, .move (.t 34)⟩] (some [6, 25, 26, 27]))))))))
 (.seq (.ops [⟨(some 35), none, .move (.t 6)⟩,
   ⟨(some 2), none, .move (.t 35)⟩] (some [2]))
 .ret)))))), [.tmp 2]⟩

/-- slices.Concat[[]int,int] -/
def x74 : XDecl := .code ⟨1, 
 (.seq (.ops [⟨(some 2), none, .move (.c (.slice none 0 0))⟩] (some [0]))
 (.seq (.ops [⟨(some 3), none, .move (.c (.int .i64 0))⟩] (some [0, 3]))
 (.seq (.seq (.ops [⟨(some 9), none, .move (.t 0)⟩,
   ⟨(some 10), none, .len (.t 9)⟩,
   ⟨(some 11), none, .move (.c (.int .i64 0))⟩] (some [0, 3, 9, 10, 11]))
 (.block 0
  (.loop
   (.seq (.ops [⟨(some 12), none, .bin .lss 3 (.t 11) (.t 10)⟩] (some [0, 3, 9, 10, 11, 12]))
   (.seq (.cond (.t 12)
    .skip
    (.exit 0))
   (.seq (.block 1
    (.seq (.ops [⟨(some 13), none, .indexAddr 1 (.t 9) (.t 11)⟩,
      ⟨(some 14), none, .load false 1 (.t 13)⟩,
      ⟨(some 5), none, .move (.t 14)⟩] (some [0, 3, 5, 9, 10, 11]))
    (.seq (.ops [⟨(some 15), none, .move (.t 3)⟩,
      ⟨(some 16), none, .move (.t 5)⟩,
      ⟨(some 17), none, .len (.t 16)⟩,
      ⟨(some 18), none, .bin .add 3 (.t 15) (.t 17)⟩,
      ⟨(some 3), none, .move (.t 18)⟩] (some [0, 3, 9, 10, 11]))
    (.seq (.ops [⟨(some 19), none, .move (.t 3)⟩,
      ⟨(some 20), none, .bin .lss 3 (.t 19) (.c (.int .i64 0))⟩] (some [0, 3, 9, 10, 11, 20]))
    (.cond (.t 20)
     (.ops [⟨(some 21), none, .fail⟩,
       ⟨none, none, .fail⟩] (some [0, 3, 9, 10, 11]))
     .skip)))))
   (.ops [⟨(some 22), none, .bin .add 3 (.t 11) (.c (.int .i64 1))⟩,
     ⟨(some 11), none, .move (.t 22)⟩] (some [0, 3, 9, 10, 11]))))))))
 (.seq (.ops [⟨(some 23), none, .move (.t 3)⟩,
   ⟨(some 24), none, .call (.c (.func (.func 84) #[] #[])) [(.c (.slice none 0 0)), (.t 23)]⟩,
   ⟨(some 6), none, .move (.t 24)⟩] (some [0, 6]))
 (.seq (.seq (.ops [⟨(some 25), none, .move (.t 0)⟩,
   ⟨(some 26), none, .len (.t 25)⟩,
   ⟨(some 27), none, .move (.c (.int .i64 0))⟩] (some [6, 25, 26, 27]))
 (.block 2
  (.loop
   (.seq (.ops [⟨(some 28), none, .bin .lss 3 (.t 27) (.t 26)⟩] (some [6, 25, 26, 27, 28]))
   (.seq (.cond (.t 28)
    .skip
    (.exit 2))
   (.seq (.block 3
    (.seq (.ops [⟨(some 29), none, .indexAddr 1 (.t 25) (.t 27)⟩,
      ⟨(some 30), none, .load false 1 (.t 29)⟩,
      ⟨(some 8), none, .move (.t 30)⟩] (some [6, 8, 25, 26, 27]))
    (.ops [⟨(some 31), none, .move (.t 6)⟩,
      ⟨(some 32), none, .move (.t 8)⟩,
      ⟨(some 33), none, .append 1 8 [(.int .i64 0)] (.t 31) (.t 32)⟩,
      ⟨(some 6), none, .move (.t 33)⟩] (some [6, 25, 26, 27]))))
   (.ops [⟨(some 34), none, .bin .add 3 (.t 27) (.c (.int .i64 1))⟩,
     ⟨(some 27), none, .move (.t 34)⟩] (some [6, 25, 26, 27]))))))))
 (.seq (.ops [⟨(some 35), none, .move (.t 6)⟩,
   ⟨(some 2), none, .move (.t 35)⟩] (some [2]))
 .ret)))))), [.tmp 2]⟩

/-- cmp.isNaN[string] -/
def x80 : XDecl := .code ⟨1, 
 (.seq (.ops [⟨(some 2), none, .move (.c (.bool false))⟩] (some [0]))
 (.seq (.ops [⟨(some 3), none, .move (.t 0)⟩,
   ⟨(some 4), none, .move (.t 0)⟩,
   ⟨(some 5), none, .bin .neq 9 (.t 3) (.t 4)⟩,
   ⟨(some 2), none, .move (.t 5)⟩] (some [2]))
 .ret)), [.tmp 2]⟩

/-- slices.rotateLeft[string] -/
def x81 : XDecl := .code ⟨2, 
 (.seq (.ops [⟨(some 4), none, .move (.t 0)⟩,
   ⟨(some 5), none, .move (.t 1)⟩,
   ⟨(some 6), none, .slice 1 (.t 4) none (some (.t 5)) none⟩,
   ⟨(some 7), none, .call (.c (.func (.func 86) #[] #[])) [(.t 6)]⟩] (some [0, 1]))
 (.seq (.ops [⟨(some 8), none, .move (.t 0)⟩,
   ⟨(some 9), none, .move (.t 1)⟩,
   ⟨(some 10), none, .slice 1 (.t 8) (some (.t 9)) none none⟩,
   ⟨(some 11), none, .call (.c (.func (.func 86) #[] #[])) [(.t 10)]⟩] (some [0]))
 (.ops [⟨(some 12), none, .move (.t 0)⟩,
   ⟨(some 13), none, .call (.c (.func (.func 86) #[] #[])) [(.t 12)]⟩] (some [])))), []⟩

/-- slices.rotateLeft[int] -/
def x82 : XDecl := .code ⟨2, 
 (.seq (.ops [⟨(some 4), none, .move (.t 0)⟩,
   ⟨(some 5), none, .move (.t 1)⟩,
   ⟨(some 6), none, .slice 1 (.t 4) none (some (.t 5)) none⟩,
   ⟨(some 7), none, .call (.c (.func (.func 87) #[] #[])) [(.t 6)]⟩] (some [0, 1]))
 (.seq (.ops [⟨(some 8), none, .move (.t 0)⟩,
   ⟨(some 9), none, .move (.t 1)⟩,
   ⟨(some 10), none, .slice 1 (.t 8) (some (.t 9)) none none⟩,
   ⟨(some 11), none, .call (.c (.func (.func 87) #[] #[])) [(.t 10)]⟩] (some [0]))
 (.ops [⟨(some 12), none, .move (.t 0)⟩,
   ⟨(some 13), none, .call (.c (.func (.func 87) #[] #[])) [(.t 12)]⟩] (some [])))), []⟩

/-- slices.Grow[[]string,string] -/
def x83 : XDecl := .code ⟨2, 
 (.seq (.ops [⟨(some 4), none, .move (.c (.slice none 0 0))⟩] (some [0, 1]))
 (.seq (.seq (.ops [⟨(some 5), none, .move (.t 1)⟩,
   ⟨(some 6), none, .bin .lss 3 (.t 5) (.c (.int .i64 0))⟩] (some [0, 1, 6]))
 (.cond (.t 6)
  (.ops [⟨(some 7), none, .fail⟩,
    ⟨none, none, .fail⟩] (some [0, 1]))
  .skip))
 (.seq (.seq (.ops [⟨(some 8), none, .move (.t 1)⟩,
   ⟨(some 9), none, .move (.t 0)⟩,
   ⟨(some 10), none, .cap (.t 9)⟩,
   ⟨(some 11), none, .move (.t 0)⟩,
   ⟨(some 12), none, .len (.t 11)⟩,
   ⟨(some 13), none, .bin .sub 3 (.t 10) (.t 12)⟩,
   ⟨(some 14), none, .bin .sub 3 (.t 8) (.t 13)⟩,
   ⟨(some 1), none, .move (.t 14)⟩] (some [0, 1]))
 (.seq (.ops [⟨(some 15), none, .move (.t 1)⟩,
   ⟨(some 16), none, .bin .gtr 3 (.t 15) (.c (.int .i64 0))⟩] (some [0, 1, 16]))
 (.cond (.t 16)
  (.ops [⟨(some 17), none, .move (.t 0)⟩,
    ⟨(some 18), none, .move (.t 0)⟩,
    ⟨(some 19), none, .cap (.t 18)⟩,
    ⟨(some 20), none, .slice 1 (.t 17) none (some (.t 19)) none⟩,
    ⟨(some 21), none, .move (.t 1)⟩,
    ⟨(some 22), none, .appendZeros 1 16 [(.string .empty)] (.t 20) (.t 21)⟩,
    ⟨(some 23), none, .move (.t 0)⟩,
    ⟨(some 24), none, .len (.t 23)⟩,
    ⟨(some 25), none, .slice 1 (.t 22) none (some (.t 24)) none⟩,
    ⟨(some 0), none, .move (.t 25)⟩] (some [0]))
  .skip)))
 (.seq (.ops [⟨(some 26), none, .move (.t 0)⟩,
   ⟨(some 4), none, .move (.t 26)⟩] (some [4]))
 .ret)))), [.tmp 4]⟩

/-- slices.Grow[[]int,int] -/
def x84 : XDecl := .code ⟨2, 
 (.seq (.ops [⟨(some 4), none, .move (.c (.slice none 0 0))⟩] (some [0, 1]))
 (.seq (.seq (.ops [⟨(some 5), none, .move (.t 1)⟩,
   ⟨(some 6), none, .bin .lss 3 (.t 5) (.c (.int .i64 0))⟩] (some [0, 1, 6]))
 (.cond (.t 6)
  (.ops [⟨(some 7), none, .fail⟩,
    ⟨none, none, .fail⟩] (some [0, 1]))
  .skip))
 (.seq (.seq (.ops [⟨(some 8), none, .move (.t 1)⟩,
   ⟨(some 9), none, .move (.t 0)⟩,
   ⟨(some 10), none, .cap (.t 9)⟩,
   ⟨(some 11), none, .move (.t 0)⟩,
   ⟨(some 12), none, .len (.t 11)⟩,
   ⟨(some 13), none, .bin .sub 3 (.t 10) (.t 12)⟩,
   ⟨(some 14), none, .bin .sub 3 (.t 8) (.t 13)⟩,
   ⟨(some 1), none, .move (.t 14)⟩] (some [0, 1]))
 (.seq (.ops [⟨(some 15), none, .move (.t 1)⟩,
   ⟨(some 16), none, .bin .gtr 3 (.t 15) (.c (.int .i64 0))⟩] (some [0, 1, 16]))
 (.cond (.t 16)
  (.ops [⟨(some 17), none, .move (.t 0)⟩,
    ⟨(some 18), none, .move (.t 0)⟩,
    ⟨(some 19), none, .cap (.t 18)⟩,
    ⟨(some 20), none, .slice 1 (.t 17) none (some (.t 19)) none⟩,
    ⟨(some 21), none, .move (.t 1)⟩,
    ⟨(some 22), none, .appendZeros 1 8 [(.int .i64 0)] (.t 20) (.t 21)⟩,
    ⟨(some 23), none, .move (.t 0)⟩,
    ⟨(some 24), none, .len (.t 23)⟩,
    ⟨(some 25), none, .slice 1 (.t 22) none (some (.t 24)) none⟩,
    ⟨(some 0), none, .move (.t 25)⟩] (some [0]))
  .skip)))
 (.seq (.ops [⟨(some 26), none, .move (.t 0)⟩,
   ⟨(some 4), none, .move (.t 26)⟩] (some [4]))
 .ret)))), [.tmp 4]⟩

/-- slices.Reverse[[]string,string] -/
def x86 : XDecl := .code ⟨1, 
 (.seq (.ops [⟨(some 4), none, .move (.t 0)⟩,
   ⟨(some 5), none, .len (.t 4)⟩,
   ⟨(some 6), none, .bin .sub 3 (.t 5) (.c (.int .i64 1))⟩,
   ⟨(some 2), none, .move (.c (.int .i64 0))⟩,
   ⟨(some 3), none, .move (.t 6)⟩] (some [0, 2, 3]))
 (.block 0
  (.loop
   (.seq (.seq (.ops [⟨(some 7), none, .move (.t 2)⟩,
     ⟨(some 8), none, .move (.t 3)⟩,
     ⟨(some 9), none, .bin .lss 3 (.t 7) (.t 8)⟩] (some [0, 2, 3, 9]))
   (.cond (.t 9)
    .skip
    (.exit 0)))
   (.seq (.block 1
    (.opsd [(0, 0, ⟨(some 14), none, .move (.t 0)⟩),
      (1, 0, ⟨(some 15), none, .move (.t 2)⟩),
      (2, 0, ⟨(some 16), none, .move (.t 0)⟩),
      (3, 0, ⟨(some 17), none, .move (.t 3)⟩),
      (4, 0, ⟨(some 18), none, .move (.t 0)⟩),
      (5, 0, ⟨(some 19), none, .move (.t 3)⟩),
      (6, 48, ⟨(some 20), none, .indexAddr 1 (.t 18) (.t 19)⟩),
      (7, 112, ⟨(some 21), none, .load false 1 (.t 20)⟩),
      (8, 0, ⟨(some 22), none, .move (.t 0)⟩),
      (9, 0, ⟨(some 23), none, .move (.t 2)⟩),
      (10, 768, ⟨(some 24), none, .indexAddr 1 (.t 22) (.t 23)⟩),
      (11, 1792, ⟨(some 25), none, .load false 1 (.t 24)⟩),
      (12, 4083, ⟨(some 26), none, .indexAddr 1 (.t 14) (.t 15)⟩),
      (13, 8179, ⟨none, none, .store 1 (.t 26) (.t 21)⟩),
      (14, 16383, ⟨(some 27), none, .indexAddr 1 (.t 16) (.t 17)⟩),
      (15, 32767, ⟨none, none, .store 1 (.t 27) (.t 25)⟩)] (some [0, 2, 3])))
   (.ops [⟨(some 10), none, .move (.t 2)⟩,
     ⟨(some 11), none, .bin .add 3 (.t 10) (.c (.int .i64 1))⟩,
     ⟨(some 12), none, .move (.t 3)⟩,
     ⟨(some 13), none, .bin .sub 3 (.t 12) (.c (.int .i64 1))⟩,
     ⟨(some 2), none, .move (.t 11)⟩,
     ⟨(some 3), none, .move (.t 13)⟩] (some [0, 2, 3]))))))), []⟩

/-- slices.Reverse[[]int,int] -/
def x87 : XDecl := .code ⟨1, 
 (.seq (.ops [⟨(some 4), none, .move (.t 0)⟩,
   ⟨(some 5), none, .len (.t 4)⟩,
   ⟨(some 6), none, .bin .sub 3 (.t 5) (.c (.int .i64 1))⟩,
   ⟨(some 2), none, .move (.c (.int .i64 0))⟩,
   ⟨(some 3), none, .move (.t 6)⟩] (some [0, 2, 3]))
 (.block 0
  (.loop
   (.seq (.seq (.ops [⟨(some 7), none, .move (.t 2)⟩,
     ⟨(some 8), none, .move (.t 3)⟩,
     ⟨(some 9), none, .bin .lss 3 (.t 7) (.t 8)⟩] (some [0, 2, 3, 9]))
   (.cond (.t 9)
    .skip
    (.exit 0)))
   (.seq (.block 1
    (.opsd [(0, 0, ⟨(some 14), none, .move (.t 0)⟩),
      (1, 0, ⟨(some 15), none, .move (.t 2)⟩),
      (2, 0, ⟨(some 16), none, .move (.t 0)⟩),
      (3, 0, ⟨(some 17), none, .move (.t 3)⟩),
      (4, 0, ⟨(some 18), none, .move (.t 0)⟩),
      (5, 0, ⟨(some 19), none, .move (.t 3)⟩),
      (6, 48, ⟨(some 20), none, .indexAddr 1 (.t 18) (.t 19)⟩),
      (7, 112, ⟨(some 21), none, .load false 1 (.t 20)⟩),
      (8, 0, ⟨(some 22), none, .move (.t 0)⟩),
      (9, 0, ⟨(some 23), none, .move (.t 2)⟩),
      (10, 768, ⟨(some 24), none, .indexAddr 1 (.t 22) (.t 23)⟩),
      (11, 1792, ⟨(some 25), none, .load false 1 (.t 24)⟩),
      (12, 4083, ⟨(some 26), none, .indexAddr 1 (.t 14) (.t 15)⟩),
      (13, 8179, ⟨none, none, .store 1 (.t 26) (.t 21)⟩),
      (14, 16383, ⟨(some 27), none, .indexAddr 1 (.t 16) (.t 17)⟩),
      (15, 32767, ⟨none, none, .store 1 (.t 27) (.t 25)⟩)] (some [0, 2, 3])))
   (.ops [⟨(some 10), none, .move (.t 2)⟩,
     ⟨(some 11), none, .bin .add 3 (.t 10) (.c (.int .i64 1))⟩,
     ⟨(some 12), none, .move (.t 3)⟩,
     ⟨(some 13), none, .bin .sub 3 (.t 12) (.c (.int .i64 1))⟩,
     ⟨(some 2), none, .move (.t 11)⟩,
     ⟨(some 3), none, .move (.t 13)⟩] (some [0, 2, 3]))))))), []⟩

def tab : FuncId → Option XDecl
  | 4 => some x4
  | 16 => some x16
  | 17 => some x17
  | 18 => some x18
  | 19 => some x19
  | 20 => some x20
  | 21 => some x21
  | 22 => some x22
  | 23 => some x23
  | 24 => some x24
  | 25 => some x25
  | 26 => some x26
  | 33 => some x33
  | 34 => some x34
  | 35 => some x35
  | 36 => some x36
  | 37 => some x37
  | 38 => some x38
  | 39 => some x39
  | 40 => some x40
  | 41 => some x41
  | 42 => some x42
  | 43 => some x43
  | 44 => some x44
  | 51 => some x51
  | 52 => some x52
  | 53 => some x53
  | 54 => some x54
  | 55 => some x55
  | 56 => some x56
  | 57 => some x57
  | 58 => some x58
  | 59 => some x59
  | 60 => some x60
  | 66 => some x66
  | 67 => some x67
  | 68 => some x68
  | 69 => some x69
  | 70 => some x70
  | 71 => some x71
  | 72 => some x72
  | 73 => some x73
  | 74 => some x74
  | 80 => some x80
  | 81 => some x81
  | 82 => some x82
  | 83 => some x83
  | 84 => some x84
  | 86 => some x86
  | 87 => some x87
  | _ => none

theorem is4 : FnIs Try.prog 4 x4 := ⟨Try.f4, _, Try.func4, by kernel_rfl, rfl, by kernel_rfl, by decide, by kernel_rfl⟩
theorem is16 : FnIs Try.prog 16 x16 := ⟨Try.f16, _, Try.func16, by kernel_rfl, rfl, by kernel_rfl, by decide, by kernel_rfl⟩
theorem is17 : FnIs Try.prog 17 x17 := ⟨Try.f17, _, Try.func17, by kernel_rfl, rfl, by kernel_rfl, by decide, by kernel_rfl⟩
theorem is18 : FnIs Try.prog 18 x18 := ⟨Try.f18, _, Try.func18, by kernel_rfl, rfl, by kernel_rfl, by decide, by kernel_rfl⟩
theorem is19 : FnIs Try.prog 19 x19 := ⟨Try.f19, _, Try.func19, by kernel_rfl, rfl, by kernel_rfl, by decide, by kernel_rfl⟩
theorem is20 : FnIs Try.prog 20 x20 := ⟨Try.f20, _, Try.func20, by kernel_rfl, rfl, by kernel_rfl, by decide, by kernel_rfl⟩
theorem is21 : FnIs Try.prog 21 x21 := ⟨Try.f21, _, Try.func21, by kernel_rfl, rfl, by kernel_rfl, by decide, by kernel_rfl⟩
theorem is22 : FnIs Try.prog 22 x22 := ⟨Try.f22, _, Try.func22, by kernel_rfl, rfl, by kernel_rfl, by decide, by kernel_rfl⟩
theorem is23 : FnIs Try.prog 23 x23 := ⟨Try.f23, _, Try.func23, by kernel_rfl, rfl, by kernel_rfl, by decide, by kernel_rfl⟩
theorem is24 : FnIs Try.prog 24 x24 := ⟨Try.f24, _, Try.func24, by kernel_rfl, rfl, by kernel_rfl, by decide, by kernel_rfl⟩
theorem is25 : FnIs Try.prog 25 x25 := ⟨Try.f25, _, Try.func25, by kernel_rfl, rfl, by kernel_rfl, by decide, by kernel_rfl⟩
theorem is26 : FnIs Try.prog 26 x26 := ⟨Try.f26, _, Try.func26, by kernel_rfl, rfl, by kernel_rfl, by decide, by kernel_rfl⟩
theorem is33 : FnIs Try.prog 33 x33 := ⟨Try.f33, _, Try.func33, by kernel_rfl, rfl, by kernel_rfl, by decide, by kernel_rfl⟩
theorem is34 : FnIs Try.prog 34 x34 := ⟨Try.f34, _, Try.func34, by kernel_rfl, rfl, by kernel_rfl, by decide, by kernel_rfl⟩
theorem is35 : FnIs Try.prog 35 x35 := ⟨Try.f35, _, Try.func35, by kernel_rfl, rfl, by kernel_rfl, by decide, by kernel_rfl⟩
theorem is36 : FnIs Try.prog 36 x36 := ⟨Try.f36, _, Try.func36, by kernel_rfl, rfl, by kernel_rfl, by decide, by kernel_rfl⟩
theorem is37 : FnIs Try.prog 37 x37 := ⟨Try.f37, _, Try.func37, by kernel_rfl, rfl, by kernel_rfl, by decide, by kernel_rfl⟩
theorem is38 : FnIs Try.prog 38 x38 := ⟨Try.f38, _, Try.func38, by kernel_rfl, rfl, by kernel_rfl, by decide, by kernel_rfl⟩
theorem is39 : FnIs Try.prog 39 x39 := ⟨Try.f39, _, Try.func39, by kernel_rfl, rfl, by kernel_rfl, by decide, by kernel_rfl⟩
theorem is40 : FnIs Try.prog 40 x40 := ⟨Try.f40, _, Try.func40, by kernel_rfl, rfl, by kernel_rfl, by decide, by kernel_rfl⟩
theorem is41 : FnIs Try.prog 41 x41 := ⟨Try.f41, _, Try.func41, by kernel_rfl, rfl, by kernel_rfl, by decide, by kernel_rfl⟩
theorem is42 : FnIs Try.prog 42 x42 := ⟨Try.f42, _, Try.func42, by kernel_rfl, rfl, by kernel_rfl, by decide, by kernel_rfl⟩
theorem is43 : FnIs Try.prog 43 x43 := ⟨Try.f43, _, Try.func43, by kernel_rfl, rfl, by kernel_rfl, by decide, by kernel_rfl⟩
theorem is44 : FnIs Try.prog 44 x44 := ⟨Try.f44, _, Try.func44, by kernel_rfl, rfl, by kernel_rfl, by decide, by kernel_rfl⟩
theorem is51 : FnIs Try.prog 51 x51 := ⟨Try.f51, _, Try.func51, by kernel_rfl, rfl, by kernel_rfl, by decide, by kernel_rfl⟩
theorem is52 : FnIs Try.prog 52 x52 := ⟨Try.f52, _, Try.func52, by kernel_rfl, rfl, by kernel_rfl, by decide, by kernel_rfl⟩
theorem is53 : FnIs Try.prog 53 x53 := ⟨Try.f53, _, Try.func53, by kernel_rfl, rfl, by kernel_rfl, by decide, by kernel_rfl⟩
theorem is54 : FnIs Try.prog 54 x54 := ⟨Try.f54, _, Try.func54, by kernel_rfl, rfl, by kernel_rfl, by decide, by kernel_rfl⟩
theorem is55 : FnIs Try.prog 55 x55 := ⟨Try.f55, _, Try.func55, by kernel_rfl, rfl, by kernel_rfl, by decide, by kernel_rfl⟩
theorem is56 : FnIs Try.prog 56 x56 := ⟨Try.f56, _, Try.func56, by kernel_rfl, rfl, by kernel_rfl, by decide, by kernel_rfl⟩
theorem is57 : FnIs Try.prog 57 x57 := ⟨Try.f57, _, Try.func57, by kernel_rfl, rfl, by kernel_rfl, by decide, by kernel_rfl⟩
theorem is58 : FnIs Try.prog 58 x58 := ⟨Try.f58, _, Try.func58, by kernel_rfl, rfl, by kernel_rfl, by decide, by kernel_rfl⟩
theorem is59 : FnIs Try.prog 59 x59 := ⟨Try.f59, _, Try.func59, by kernel_rfl, rfl, by kernel_rfl, by decide, by kernel_rfl⟩
theorem is60 : FnIs Try.prog 60 x60 := ⟨Try.f60, _, Try.func60, by kernel_rfl, rfl, by kernel_rfl, by decide, by kernel_rfl⟩
theorem is66 : FnIs Try.prog 66 x66 := ⟨Try.f66, _, Try.func66, by kernel_rfl, rfl, by kernel_rfl, by decide, by kernel_rfl⟩
theorem is67 : FnIs Try.prog 67 x67 := ⟨Try.f67, _, Try.func67, by kernel_rfl, rfl, by kernel_rfl, by decide, by kernel_rfl⟩
theorem is68 : FnIs Try.prog 68 x68 := rfl
theorem is69 : FnIs Try.prog 69 x69 := ⟨Try.f69, _, Try.func69, by kernel_rfl, rfl, by kernel_rfl, by decide, by kernel_rfl⟩
theorem is70 : FnIs Try.prog 70 x70 := rfl
theorem is71 : FnIs Try.prog 71 x71 := ⟨Try.f71, _, Try.func71, by kernel_rfl, rfl, by kernel_rfl, by decide, by kernel_rfl⟩
theorem is72 : FnIs Try.prog 72 x72 := ⟨Try.f72, _, Try.func72, by kernel_rfl, rfl, by kernel_rfl, by decide, by kernel_rfl⟩
theorem is73 : FnIs Try.prog 73 x73 := ⟨Try.f73, _, Try.func73, by kernel_rfl, rfl, by kernel_rfl, by decide, by kernel_rfl⟩
theorem is74 : FnIs Try.prog 74 x74 := ⟨Try.f74, _, Try.func74, by kernel_rfl, rfl, by kernel_rfl, by decide, by kernel_rfl⟩
theorem is80 : FnIs Try.prog 80 x80 := ⟨Try.f80, _, Try.func80, by kernel_rfl, rfl, by kernel_rfl, by decide, by kernel_rfl⟩
theorem is81 : FnIs Try.prog 81 x81 := ⟨Try.f81, _, Try.func81, by kernel_rfl, rfl, by kernel_rfl, by decide, by kernel_rfl⟩
theorem is82 : FnIs Try.prog 82 x82 := ⟨Try.f82, _, Try.func82, by kernel_rfl, rfl, by kernel_rfl, by decide, by kernel_rfl⟩
theorem is83 : FnIs Try.prog 83 x83 := ⟨Try.f83, _, Try.func83, by kernel_rfl, rfl, by kernel_rfl, by decide, by kernel_rfl⟩
theorem is84 : FnIs Try.prog 84 x84 := ⟨Try.f84, _, Try.func84, by kernel_rfl, rfl, by kernel_rfl, by decide, by kernel_rfl⟩
theorem is86 : FnIs Try.prog 86 x86 := ⟨Try.f86, _, Try.func86, by kernel_rfl, rfl, by kernel_rfl, by decide, by kernel_rfl⟩
theorem is87 : FnIs Try.prog 87 x87 := ⟨Try.f87, _, Try.func87, by kernel_rfl, rfl, by kernel_rfl, by decide, by kernel_rfl⟩

theorem tab_is : ∀ f d, tab f = some d → FnIs Try.prog f d := by
  intro f d h
  unfold tab at h
  split at h
  · cases h; exact is4
  · cases h; exact is16
  · cases h; exact is17
  · cases h; exact is18
  · cases h; exact is19
  · cases h; exact is20
  · cases h; exact is21
  · cases h; exact is22
  · cases h; exact is23
  · cases h; exact is24
  · cases h; exact is25
  · cases h; exact is26
  · cases h; exact is33
  · cases h; exact is34
  · cases h; exact is35
  · cases h; exact is36
  · cases h; exact is37
  · cases h; exact is38
  · cases h; exact is39
  · cases h; exact is40
  · cases h; exact is41
  · cases h; exact is42
  · cases h; exact is43
  · cases h; exact is44
  · cases h; exact is51
  · cases h; exact is52
  · cases h; exact is53
  · cases h; exact is54
  · cases h; exact is55
  · cases h; exact is56
  · cases h; exact is57
  · cases h; exact is58
  · cases h; exact is59
  · cases h; exact is60
  · cases h; exact is66
  · cases h; exact is67
  · cases h; exact is68
  · cases h; exact is69
  · cases h; exact is70
  · cases h; exact is71
  · cases h; exact is72
  · cases h; exact is73
  · cases h; exact is74
  · cases h; exact is80
  · cases h; exact is81
  · cases h; exact is82
  · cases h; exact is83
  · cases h; exact is84
  · cases h; exact is86
  · cases h; exact is87
  · cases h

theorem mixed : Try.prog.follows .mixedOrders = true := by kernel_rfl
theorem laid : laidOutB Try.prog = true := by kernel_rfl
theorem own : ownKnob Try.prog.godebug = none := by kernel_rfl

end Go.Proofs.Ytjlmpmobankidaa.X
