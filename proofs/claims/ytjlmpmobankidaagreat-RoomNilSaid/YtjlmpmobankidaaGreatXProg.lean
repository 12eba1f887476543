/-
  Own work, printed by a program of ours (mkprog.py): the functions of this seat as code of the abstract run, and that each is the model's.
-/
import Derived.Test.YtjlmpmobankidaaGreatXLaw
import Derived.Test.YtjlmpmobankidaaGreatChecked
set_option maxRecDepth 100000
namespace Go.Proofs.YtjlmpmobankidaaGreat.X
open Go

/-- cloisonne/cloisonnelaw11.RoomNil -/
def x3 : XDecl := .code ⟨2, 
 (.seq (.ops [⟨(some 2), none, .box (.t 0)⟩,
   ⟨(some 4), none, .move (.c (.bool false))⟩] (some [1, 2]))
 (.seq (.seq (.ops [⟨(some 19), none, .call (.c (.func (.func 5) #[] #[])) []⟩,
   ⟨(some 20), none, .un .not (.t 19)⟩] (some [1, 2, 20]))
 (.cond (.t 20)
  (.seq (.ops [⟨(some 4), none, .move (.c (.bool false))⟩] (some [4]))
  .ret)
  .skip))
 (.seq (.ops [⟨(some 5), none, .move (.c (.pointer none))⟩] (some [1, 2, 5]))
 (.seq (.ops [⟨(some 22), none, .move (.t 5)⟩,
   ⟨(some 23), none, .move (.t 1)⟩,
   ⟨(some 24), none, .call (.c (.func (.func 6) #[] #[])) [(.t 22), (.t 23)]⟩,
   ⟨(some 21), none, .move (.t 24)⟩,
   ⟨(some 25), none, .extract (.t 21) 0⟩,
   ⟨(some 26), none, .extract (.t 21) 1⟩,
   ⟨(some 6), none, .move (.t 25)⟩,
   ⟨(some 7), none, .move (.t 26)⟩] (some [1, 2, 5, 6, 7]))
 (.seq (.ops [⟨(some 28), none, .move (.t 5)⟩,
   ⟨(some 29), none, .fieldAddr 4 (.t 2)⟩,
   ⟨(some 30), none, .load false 1 (.t 29)⟩,
   ⟨(some 31), none, .fieldAddr 3 (.t 2)⟩,
   ⟨(some 32), none, .load false 1 (.t 31)⟩,
   ⟨(some 33), none, .call (.c (.func (.func 7) #[] #[])) [(.t 28), (.t 30), (.t 32)]⟩,
   ⟨(some 27), none, .move (.t 33)⟩,
   ⟨(some 34), none, .extract (.t 27) 0⟩,
   ⟨(some 35), none, .extract (.t 27) 1⟩,
   ⟨(some 8), none, .alloc [(.bool false), (.string .empty), (.int .u64 0)]⟩,
   ⟨none, none, .store 3 (.t 8) (.t 34)⟩,
   ⟨(some 9), none, .move (.t 35)⟩] (some [1, 2, 5, 6, 7, 8, 9]))
 (.seq (.ops [⟨(some 37), none, .move (.t 5)⟩,
   ⟨(some 38), none, .fieldAddr 4 (.t 2)⟩,
   ⟨(some 39), none, .load false 1 (.t 38)⟩,
   ⟨(some 40), none, .fieldAddr 3 (.t 2)⟩,
   ⟨(some 41), none, .load false 1 (.t 40)⟩,
   ⟨(some 42), none, .call (.c (.func (.func 8) #[] #[])) [(.t 37), (.t 39), (.t 41)]⟩,
   ⟨(some 36), none, .move (.t 42)⟩,
   ⟨(some 43), none, .extract (.t 36) 0⟩,
   ⟨(some 44), none, .extract (.t 36) 1⟩,
   ⟨(some 45), none, .extract (.t 36) 2⟩,
   ⟨(some 11), none, .alloc [(.bool false), (.string .empty), (.int .u64 0)]⟩,
   ⟨(some 10), none, .move (.t 43)⟩,
   ⟨none, none, .store 3 (.t 11) (.t 44)⟩,
   ⟨(some 12), none, .move (.t 45)⟩] (some [1, 2, 5, 6, 7, 8, 9, 10, 11, 12]))
 (.seq (.ops [⟨(some 47), none, .move (.t 5)⟩,
   ⟨(some 48), none, .fieldAddr 4 (.t 2)⟩,
   ⟨(some 49), none, .load false 1 (.t 48)⟩,
   ⟨(some 50), none, .fieldAddr 3 (.t 2)⟩,
   ⟨(some 51), none, .load false 1 (.t 50)⟩,
   ⟨(some 52), none, .call (.c (.func (.func 9) #[] #[])) [(.t 47), (.t 49), (.t 51)]⟩,
   ⟨(some 46), none, .move (.t 52)⟩,
   ⟨(some 53), none, .extract (.t 46) 0⟩,
   ⟨(some 54), none, .extract (.t 46) 1⟩,
   ⟨(some 55), none, .extract (.t 46) 2⟩,
   ⟨(some 14), none, .alloc [(.bool false), (.string .empty), (.int .u64 0)]⟩,
   ⟨(some 13), none, .move (.t 53)⟩,
   ⟨none, none, .store 3 (.t 14) (.t 54)⟩,
   ⟨(some 15), none, .move (.t 55)⟩] (some [1, 2, 5, 6, 7, 8, 9, 10, 11, 12, 13, 14, 15]))
 (.seq (.ops [⟨(some 57), none, .move (.t 5)⟩,
   ⟨(some 58), none, .fieldAddr 1 (.t 2)⟩,
   ⟨(some 59), none, .load false 1 (.t 58)⟩,
   ⟨(some 60), none, .move (.t 1)⟩,
   ⟨(some 61), none, .call (.c (.func (.func 10) #[] #[])) [(.t 57), (.t 59), (.t 60)]⟩,
   ⟨(some 56), none, .move (.t 61)⟩,
   ⟨(some 62), none, .extract (.t 56) 0⟩,
   ⟨(some 63), none, .extract (.t 56) 1⟩,
   ⟨(some 16), none, .move (.t 62)⟩,
   ⟨(some 17), none, .move (.t 63)⟩] (some [2, 5, 6, 7, 8, 9, 10, 11, 12, 13, 14, 15, 16, 17]))
 (.seq (.ops [⟨(some 64), none, .move (.t 5)⟩,
   ⟨(some 65), none, .call (.c (.func (.func 11) #[] #[])) [(.t 64)]⟩,
   ⟨(some 18), none, .alloc [(.slice none 0 0), (.int .i64 0), (.int .i64 0), (.int .i64 0)]⟩,
   ⟨none, none, .store 4 (.t 18) (.t 65)⟩] (some [2, 5, 6, 7, 8, 9, 10, 11, 12, 13, 14, 15, 16, 17, 18]))
 (.seq (.ops [⟨(some 66), none, .move (.t 6)⟩,
   ⟨(some 67), none, .bin .eql 3 (.t 66) (.c (.int .i64 0))⟩,
   ⟨(some 68), none, .move (.t 67)⟩,
   ⟨(some 69), (some (68, true)), .move (.t 7)⟩,
   ⟨(some 70), (some (68, true)), .bin .eql 28 (.t 69) (.c (.int .i64 2))⟩,
   ⟨(some 71), none, .pick (.t 68) (.t 70) (.c (.bool false))⟩,
   ⟨(some 72), none, .move (.t 71)⟩,
   ⟨(some 73), (some (72, true)), .load true 3 (.t 8)⟩,
   ⟨(some 74), (some (72, true)), .build [(.bool false), (.string .empty), (.int .u64 0)] [(0, 1), (1, 1), (2, 1)] []⟩,
   ⟨(some 75), (some (72, true)), .bin .eql 32 (.t 73) (.t 74)⟩,
   ⟨(some 76), none, .pick (.t 72) (.t 75) (.c (.bool false))⟩,
   ⟨(some 77), none, .move (.t 76)⟩,
   ⟨(some 78), (some (77, true)), .move (.t 9)⟩,
   ⟨(some 79), (some (77, true)), .un .not (.t 78)⟩,
   ⟨(some 80), none, .pick (.t 77) (.t 79) (.c (.bool false))⟩,
   ⟨(some 81), none, .move (.t 80)⟩,
   ⟨(some 82), (some (81, true)), .move (.t 10)⟩,
   ⟨(some 83), (some (81, true)), .bin .eql 9 (.t 82) (.c (.string .empty))⟩,
   ⟨(some 84), none, .pick (.t 81) (.t 83) (.c (.bool false))⟩,
   ⟨(some 85), none, .move (.t 84)⟩,
   ⟨(some 86), (some (85, true)), .load true 3 (.t 11)⟩,
   ⟨(some 87), (some (85, true)), .build [(.bool false), (.string .empty), (.int .u64 0)] [(0, 1), (1, 1), (2, 1)] []⟩,
   ⟨(some 88), (some (85, true)), .bin .eql 32 (.t 86) (.t 87)⟩,
   ⟨(some 89), none, .pick (.t 85) (.t 88) (.c (.bool false))⟩,
   ⟨(some 90), none, .move (.t 89)⟩,
   ⟨(some 91), (some (90, true)), .move (.t 12)⟩,
   ⟨(some 92), (some (90, true)), .un .not (.t 91)⟩,
   ⟨(some 93), none, .pick (.t 90) (.t 92) (.c (.bool false))⟩,
   ⟨(some 94), none, .move (.t 93)⟩,
   ⟨(some 95), (some (94, true)), .move (.t 13)⟩,
   ⟨(some 96), (some (94, true)), .bin .eql 9 (.t 95) (.c (.string .empty))⟩,
   ⟨(some 97), none, .pick (.t 94) (.t 96) (.c (.bool false))⟩,
   ⟨(some 98), none, .move (.t 97)⟩,
   ⟨(some 99), (some (98, true)), .load true 3 (.t 14)⟩,
   ⟨(some 100), (some (98, true)), .build [(.bool false), (.string .empty), (.int .u64 0)] [(0, 1), (1, 1), (2, 1)] []⟩,
   ⟨(some 101), (some (98, true)), .bin .eql 32 (.t 99) (.t 100)⟩,
   ⟨(some 102), none, .pick (.t 98) (.t 101) (.c (.bool false))⟩,
   ⟨(some 103), none, .move (.t 102)⟩,
   ⟨(some 104), (some (103, true)), .move (.t 15)⟩,
   ⟨(some 105), (some (103, true)), .un .not (.t 104)⟩,
   ⟨(some 106), none, .pick (.t 103) (.t 105) (.c (.bool false))⟩,
   ⟨(some 107), none, .move (.t 106)⟩,
   ⟨(some 108), (some (107, true)), .move (.t 5)⟩,
   ⟨(some 109), (some (107, true)), .fieldAddr 1 (.t 2)⟩,
   ⟨(some 110), (some (107, true)), .load false 1 (.t 109)⟩,
   ⟨(some 111), (some (107, true)), .fieldAddr 3 (.t 2)⟩,
   ⟨(some 112), (some (107, true)), .load false 1 (.t 111)⟩,
   ⟨(some 113), (some (107, true)), .call (.c (.func (.func 12) #[] #[])) [(.t 108), (.t 110), (.t 112)]⟩,
   ⟨(some 114), (some (107, true)), .bin .eql 28 (.t 113) (.c (.int .i64 2))⟩,
   ⟨(some 115), none, .pick (.t 107) (.t 114) (.c (.bool false))⟩,
   ⟨(some 116), none, .move (.t 115)⟩,
   ⟨(some 117), (some (116, true)), .move (.t 16)⟩,
   ⟨(some 118), (some (116, true)), .bin .eql 3 (.t 117) (.c (.int .i64 0))⟩,
   ⟨(some 119), none, .pick (.t 116) (.t 118) (.c (.bool false))⟩,
   ⟨(some 120), none, .move (.t 119)⟩,
   ⟨(some 121), (some (120, true)), .move (.t 17)⟩,
   ⟨(some 122), (some (120, true)), .bin .eql 28 (.t 121) (.c (.int .i64 2))⟩,
   ⟨(some 123), none, .pick (.t 120) (.t 122) (.c (.bool false))⟩,
   ⟨(some 124), none, .move (.t 123)⟩,
   ⟨(some 125), (some (124, true)), .move (.t 5)⟩,
   ⟨(some 126), (some (124, true)), .call (.c (.func (.func 13) #[] #[])) [(.t 125)]⟩,
   ⟨(some 127), (some (124, true)), .bin .eql 3 (.t 126) (.c (.int .i64 0))⟩,
   ⟨(some 128), none, .pick (.t 124) (.t 127) (.c (.bool false))⟩,
   ⟨(some 129), none, .move (.t 128)⟩,
   ⟨(some 130), (some (129, true)), .move (.t 5)⟩,
   ⟨(some 131), (some (129, true)), .call (.c (.func (.func 14) #[] #[])) [(.t 130)]⟩,
   ⟨(some 132), (some (129, true)), .bin .eql 3 (.t 131) (.c (.int .i64 0))⟩,
   ⟨(some 133), none, .pick (.t 129) (.t 132) (.c (.bool false))⟩,
   ⟨(some 134), none, .move (.t 133)⟩,
   ⟨(some 135), (some (134, true)), .move (.t 5)⟩,
   ⟨(some 136), (some (134, true)), .call (.c (.func (.func 15) #[] #[])) [(.t 135)]⟩,
   ⟨(some 137), (some (134, true)), .bin .eql 3 (.t 136) (.c (.int .i64 0))⟩,
   ⟨(some 138), none, .pick (.t 134) (.t 137) (.c (.bool false))⟩,
   ⟨(some 139), none, .move (.t 138)⟩,
   ⟨(some 140), (some (139, true)), .move (.t 5)⟩,
   ⟨(some 141), (some (139, true)), .call (.c (.func (.func 16) #[] #[])) [(.t 140)]⟩,
   ⟨(some 142), (some (139, true)), .bin .eql 3 (.t 141) (.c (.int .i64 0))⟩,
   ⟨(some 143), none, .pick (.t 139) (.t 142) (.c (.bool false))⟩,
   ⟨(some 144), none, .move (.t 143)⟩,
   ⟨(some 145), (some (144, true)), .move (.t 5)⟩,
   ⟨(some 146), (some (144, true)), .call (.c (.func (.func 17) #[] #[])) [(.t 145)]⟩,
   ⟨(some 147), (some (144, true)), .len (.t 146)⟩,
   ⟨(some 148), (some (144, true)), .bin .eql 3 (.t 147) (.c (.int .i64 0))⟩,
   ⟨(some 149), none, .pick (.t 144) (.t 148) (.c (.bool false))⟩,
   ⟨(some 150), none, .move (.t 149)⟩,
   ⟨(some 151), (some (150, true)), .move (.t 5)⟩,
   ⟨(some 152), (some (150, true)), .call (.c (.func (.func 18) #[] #[])) [(.t 151)]⟩,
   ⟨(some 153), (some (150, true)), .bin .eql 3 (.t 152) (.c (.int .i64 0))⟩,
   ⟨(some 154), none, .pick (.t 150) (.t 153) (.c (.bool false))⟩,
   ⟨(some 155), none, .move (.t 154)⟩,
   ⟨(some 156), (some (155, true)), .move (.t 5)⟩,
   ⟨(some 157), (some (155, true)), .call (.c (.func (.func 19) #[] #[])) [(.t 156)]⟩,
   ⟨(some 158), (some (155, true)), .bin .eql 3 (.t 157) (.c (.int .i64 0))⟩,
   ⟨(some 159), none, .pick (.t 155) (.t 158) (.c (.bool false))⟩,
   ⟨(some 160), none, .move (.t 159)⟩,
   ⟨(some 161), (some (160, true)), .fieldAddr 0 (.t 18)⟩,
   ⟨(some 162), (some (160, true)), .load false 1 (.t 161)⟩,
   ⟨(some 163), (some (160, true)), .len (.t 162)⟩,
   ⟨(some 164), (some (160, true)), .bin .eql 3 (.t 163) (.c (.int .i64 0))⟩,
   ⟨(some 165), none, .pick (.t 160) (.t 164) (.c (.bool false))⟩,
   ⟨(some 166), none, .move (.t 165)⟩,
   ⟨(some 167), (some (166, true)), .fieldAddr 1 (.t 18)⟩,
   ⟨(some 168), (some (166, true)), .load false 1 (.t 167)⟩,
   ⟨(some 169), (some (166, true)), .bin .eql 3 (.t 168) (.c (.int .i64 0))⟩,
   ⟨(some 170), none, .pick (.t 166) (.t 169) (.c (.bool false))⟩,
   ⟨(some 171), none, .move (.t 170)⟩,
   ⟨(some 172), (some (171, true)), .fieldAddr 2 (.t 18)⟩,
   ⟨(some 173), (some (171, true)), .load false 1 (.t 172)⟩,
   ⟨(some 174), (some (171, true)), .bin .eql 3 (.t 173) (.c (.int .i64 0))⟩,
   ⟨(some 175), none, .pick (.t 171) (.t 174) (.c (.bool false))⟩,
   ⟨(some 176), none, .move (.t 175)⟩,
   ⟨(some 177), (some (176, true)), .fieldAddr 3 (.t 18)⟩,
   ⟨(some 178), (some (176, true)), .load false 1 (.t 177)⟩,
   ⟨(some 179), (some (176, true)), .bin .eql 3 (.t 178) (.c (.int .i64 0))⟩,
   ⟨(some 180), none, .pick (.t 176) (.t 179) (.c (.bool false))⟩,
   ⟨(some 4), none, .move (.t 180)⟩] (some [4]))
 .ret)))))))))), [.tmp 4]⟩

/-- cloisonne/cloisonnelaw11.awake -/
def x5 : XDecl := .code ⟨0, 
 (.seq (.ops [⟨(some 0), none, .move (.c (.bool false))⟩] (some []))
 (.seq (.ops [⟨(some 6), none, .build [(.slice none 0 0), (.int .i64 0), (.int .i64 0), (.int .i64 0)] [(0, 1), (1, 1), (2, 1), (3, 1)] [(1, (.c (.int .i64 1))), (2, (.c (.int .i64 3))), (3, (.c (.int .i64 9)))]⟩,
   ⟨(some 7), none, .call (.c (.func (.func 23) #[] #[])) [(.t 6)]⟩,
   ⟨(some 5), none, .move (.t 7)⟩,
   ⟨(some 8), none, .extract (.t 5) 0⟩,
   ⟨(some 9), none, .extract (.t 5) 1⟩,
   ⟨(some 1), none, .move (.t 8)⟩,
   ⟨(some 2), none, .move (.t 9)⟩] (some [1, 2]))
 (.seq (.ops [⟨(some 10), none, .move (.t 1)⟩,
   ⟨(some 11), none, .build [(.bool false), (.string .empty), (.int .u64 0)] [(0, 1), (1, 1), (2, 1)] [(1, (.c (.string ⟨#[120]⟩)))]⟩,
   ⟨(some 12), none, .build [(.string .empty), (.bool false), (.bool false), (.string .empty), (.int .u64 0)] [(0, 1), (1, 1), (2, 3)] [(0, (.c (.string ⟨#[107]⟩))), (2, (.t 11))]⟩,
   ⟨(some 13), none, .buildSlice [(.string .empty), (.bool false), (.bool false), (.string .empty), (.int .u64 0)] 5 1 [(0, (.t 12))]⟩,
   ⟨(some 14), none, .call (.c (.func (.func 12) #[] #[])) [(.t 10), (.t 13), (.c (.int .i64 0))]⟩,
   ⟨(some 3), none, .move (.t 14)⟩] (some [1, 2, 3]))
 (.seq (.ops [⟨(some 15), none, .move (.t 1)⟩,
   ⟨(some 16), none, .build [(.bool false), (.string .empty), (.int .u64 0)] [(0, 1), (1, 1), (2, 1)] [(1, (.c (.string ⟨#[120, 121]⟩)))]⟩,
   ⟨(some 17), none, .build [(.string .empty), (.bool false), (.bool false), (.string .empty), (.int .u64 0)] [(0, 1), (1, 1), (2, 3)] [(0, (.c (.string ⟨#[107]⟩))), (2, (.t 16))]⟩,
   ⟨(some 18), none, .buildSlice [(.string .empty), (.bool false), (.bool false), (.string .empty), (.int .u64 0)] 5 1 [(0, (.t 17))]⟩,
   ⟨(some 19), none, .call (.c (.func (.func 12) #[] #[])) [(.t 15), (.t 18), (.c (.int .i64 0))]⟩,
   ⟨(some 4), none, .move (.t 19)⟩] (some [2, 3, 4]))
 (.seq (.ops [⟨(some 20), none, .move (.t 2)⟩,
   ⟨(some 21), none, .bin .eql 28 (.t 20) (.c (.int .i64 0))⟩,
   ⟨(some 22), none, .move (.t 21)⟩,
   ⟨(some 23), (some (22, true)), .move (.t 3)⟩,
   ⟨(some 24), (some (22, true)), .bin .eql 28 (.t 23) (.c (.int .i64 0))⟩,
   ⟨(some 25), none, .pick (.t 22) (.t 24) (.c (.bool false))⟩,
   ⟨(some 26), none, .move (.t 25)⟩,
   ⟨(some 27), (some (26, true)), .move (.t 4)⟩,
   ⟨(some 28), (some (26, true)), .bin .eql 28 (.t 27) (.c (.int .i64 15))⟩,
   ⟨(some 29), none, .pick (.t 26) (.t 28) (.c (.bool false))⟩,
   ⟨(some 0), none, .move (.t 29)⟩] (some [0]))
 .ret))))), [.tmp 0]⟩

/-- (*cloisonne/room.Room).AsOf -/
def x6 : XDecl := .code ⟨2, 
 (.seq (.ops [⟨(some 4), none, .move (.c (.int .i64 0))⟩,
   ⟨(some 5), none, .move (.c (.int .i64 0))⟩] (some [0, 1]))
 (.seq (.seq (.ops [⟨(some 6), none, .move (.t 0)⟩,
   ⟨(some 7), none, .isNil .ptr false (.t 6)⟩] (some [0, 1, 7]))
 (.cond (.t 7)
  (.seq (.ops [⟨(some 4), none, .move (.c (.int .i64 0))⟩,
    ⟨(some 5), none, .move (.c (.int .i64 2))⟩] (some [4, 5]))
  .ret)
  .skip))
 (.seq (.ops [⟨(some 8), none, .move (.t 0)⟩,
   ⟨(some 9), none, .nilCheck (.t 8)⟩,
   ⟨(some 10), none, .fieldAddr 4 (.t 9)⟩,
   ⟨(some 11), none, .load false 1 (.t 10)⟩,
   ⟨(some 12), none, .move (.t 1)⟩,
   ⟨(some 13), none, .call (.c (.func (.func 28) #[] #[])) [(.t 11), (.t 12)]⟩,
   ⟨(some 14), none, .extract (.t 13) 0⟩,
   ⟨(some 15), none, .extract (.t 13) 1⟩,
   ⟨(some 4), none, .move (.t 14)⟩,
   ⟨(some 5), none, .move (.t 15)⟩] (some [4, 5]))
 .ret))), [.tmp 4, .tmp 5]⟩

/-- (*cloisonne/room.Room).Get -/
def x7 : XDecl := .code ⟨3, 
 (.seq (.ops [⟨(some 6), none, .alloc [(.bool false), (.string .empty), (.int .u64 0)]⟩,
   ⟨(some 7), none, .move (.c (.bool false))⟩] (some [0, 1, 2, 6]))
 (.seq (.ops [⟨(some 11), none, .move (.t 0)⟩,
   ⟨(some 12), none, .move (.t 1)⟩,
   ⟨(some 13), none, .call (.c (.func (.func 30) #[] #[])) [(.t 11), (.t 12)]⟩,
   ⟨(some 14), none, .move (.t 2)⟩,
   ⟨(some 15), none, .call (.c (.func (.func 29) #[] #[])) [(.t 13), (.t 14)]⟩,
   ⟨(some 10), none, .move (.t 15)⟩,
   ⟨(some 16), none, .extract (.t 10) 0⟩,
   ⟨(some 17), none, .extract (.t 10) 1⟩,
   ⟨(some 8), none, .alloc [(.int .i64 0), (.bool false), (.bool false), (.string .empty), (.int .u64 0)]⟩,
   ⟨none, none, .store 5 (.t 8) (.t 16)⟩,
   ⟨(some 9), none, .move (.t 17)⟩] (some [6, 8, 9]))
 (.seq (.ops [⟨(some 18), none, .fieldAddr 2 (.t 8)⟩,
   ⟨(some 19), none, .load true 3 (.t 18)⟩,
   ⟨(some 20), none, .move (.t 9)⟩,
   ⟨none, none, .store 3 (.t 6) (.t 19)⟩,
   ⟨(some 7), none, .move (.t 20)⟩] (some [6, 7]))
 .ret))), [.cell true 3 6, .tmp 7]⟩

/-- (*cloisonne/room.Room).After -/
def x8 : XDecl := .code ⟨3, 
 (.seq (.ops [⟨(some 6), none, .move (.c (.string .empty))⟩,
   ⟨(some 7), none, .alloc [(.bool false), (.string .empty), (.int .u64 0)]⟩,
   ⟨(some 8), none, .move (.c (.bool false))⟩] (some [0, 1, 2, 7]))
 (.seq (.seq (.ops [⟨(some 12), none, .move (.t 0)⟩,
   ⟨(some 13), none, .isNil .ptr false (.t 12)⟩] (some [0, 1, 2, 7, 13]))
 (.cond (.t 13)
  (.seq (.ops [⟨(some 14), none, .build [(.bool false), (.string .empty), (.int .u64 0)] [(0, 1), (1, 1), (2, 1)] []⟩,
    ⟨(some 6), none, .move (.c (.string .empty))⟩,
    ⟨none, none, .store 3 (.t 7) (.t 14)⟩,
    ⟨(some 8), none, .move (.c (.bool false))⟩] (some [6, 7, 8]))
  .ret)
  .skip))
 (.seq (.ops [⟨(some 16), none, .move (.t 0)⟩,
   ⟨(some 17), none, .nilCheck (.t 16)⟩,
   ⟨(some 18), none, .fieldAddr 5 (.t 17)⟩,
   ⟨(some 19), none, .load false 1 (.t 18)⟩,
   ⟨(some 20), none, .move (.t 1)⟩,
   ⟨(some 21), none, .call (.c (.func (.func 31) #[] #[])) [(.t 19), (.t 20)]⟩,
   ⟨(some 15), none, .move (.t 21)⟩,
   ⟨(some 22), none, .extract (.t 15) 0⟩,
   ⟨(some 23), none, .extract (.t 15) 1⟩,
   ⟨(some 24), none, .extract (.t 15) 2⟩,
   ⟨(some 9), none, .move (.t 22)⟩,
   ⟨(some 10), none, .move (.t 23)⟩,
   ⟨(some 11), none, .move (.t 24)⟩] (some [0, 2, 7, 9, 10, 11]))
 (.seq (.ops [⟨(some 25), none, .move (.t 0)⟩,
   ⟨(some 26), none, .move (.t 9)⟩,
   ⟨(some 27), none, .move (.t 10)⟩,
   ⟨(some 28), none, .move (.t 11)⟩,
   ⟨(some 29), none, .move (.t 2)⟩,
   ⟨(some 30), none, .call (.c (.func (.func 32) #[] #[])) [(.t 25), (.t 26), (.t 27), (.t 28), (.t 29)]⟩,
   ⟨(some 31), none, .extract (.t 30) 0⟩,
   ⟨(some 32), none, .extract (.t 30) 1⟩,
   ⟨(some 33), none, .extract (.t 30) 2⟩,
   ⟨(some 6), none, .move (.t 31)⟩,
   ⟨none, none, .store 3 (.t 7) (.t 32)⟩,
   ⟨(some 8), none, .move (.t 33)⟩] (some [6, 7, 8]))
 .ret)))), [.tmp 6, .cell true 3 7, .tmp 8]⟩

/-- (*cloisonne/room.Room).Seek -/
def x9 : XDecl := .code ⟨3, 
 (.seq (.ops [⟨(some 6), none, .move (.c (.string .empty))⟩,
   ⟨(some 7), none, .alloc [(.bool false), (.string .empty), (.int .u64 0)]⟩,
   ⟨(some 8), none, .move (.c (.bool false))⟩] (some [0, 1, 2, 7]))
 (.seq (.seq (.ops [⟨(some 12), none, .move (.t 0)⟩,
   ⟨(some 13), none, .isNil .ptr false (.t 12)⟩] (some [0, 1, 2, 7, 13]))
 (.cond (.t 13)
  (.seq (.ops [⟨(some 14), none, .build [(.bool false), (.string .empty), (.int .u64 0)] [(0, 1), (1, 1), (2, 1)] []⟩,
    ⟨(some 6), none, .move (.c (.string .empty))⟩,
    ⟨none, none, .store 3 (.t 7) (.t 14)⟩,
    ⟨(some 8), none, .move (.c (.bool false))⟩] (some [6, 7, 8]))
  .ret)
  .skip))
 (.seq (.ops [⟨(some 16), none, .move (.t 0)⟩,
   ⟨(some 17), none, .nilCheck (.t 16)⟩,
   ⟨(some 18), none, .fieldAddr 5 (.t 17)⟩,
   ⟨(some 19), none, .load false 1 (.t 18)⟩,
   ⟨(some 20), none, .move (.t 1)⟩,
   ⟨(some 21), none, .call (.c (.func (.func 33) #[] #[])) [(.t 19), (.t 20)]⟩,
   ⟨(some 15), none, .move (.t 21)⟩,
   ⟨(some 22), none, .extract (.t 15) 0⟩,
   ⟨(some 23), none, .extract (.t 15) 1⟩,
   ⟨(some 24), none, .extract (.t 15) 2⟩,
   ⟨(some 9), none, .move (.t 22)⟩,
   ⟨(some 10), none, .move (.t 23)⟩,
   ⟨(some 11), none, .move (.t 24)⟩] (some [0, 2, 7, 9, 10, 11]))
 (.seq (.ops [⟨(some 25), none, .move (.t 0)⟩,
   ⟨(some 26), none, .move (.t 9)⟩,
   ⟨(some 27), none, .move (.t 10)⟩,
   ⟨(some 28), none, .move (.t 11)⟩,
   ⟨(some 29), none, .move (.t 2)⟩,
   ⟨(some 30), none, .call (.c (.func (.func 32) #[] #[])) [(.t 25), (.t 26), (.t 27), (.t 28), (.t 29)]⟩,
   ⟨(some 31), none, .extract (.t 30) 0⟩,
   ⟨(some 32), none, .extract (.t 30) 1⟩,
   ⟨(some 33), none, .extract (.t 30) 2⟩,
   ⟨(some 6), none, .move (.t 31)⟩,
   ⟨none, none, .store 3 (.t 7) (.t 32)⟩,
   ⟨(some 8), none, .move (.t 33)⟩] (some [6, 7, 8]))
 .ret)))), [.tmp 6, .cell true 3 7, .tmp 8]⟩

/-- (*cloisonne/room.Room).Commit -/
def x10 : XDecl := .code ⟨3, 
 (.seq (.ops [⟨(some 6), none, .move (.c (.int .i64 0))⟩,
   ⟨(some 7), none, .move (.c (.int .i64 0))⟩] (some [0, 1, 2]))
 (.seq (.block 0
  (.seq (.ops [⟨(some 15), none, .move (.t 0)⟩,
    ⟨(some 16), none, .isNil .ptr false (.t 15)⟩,
    ⟨(some 14), none, .move (.t 16)⟩] (some [0, 1, 2, 14]))
  (.cond (.t 14)
   (.seq (.ops [⟨(some 6), none, .move (.c (.int .i64 0))⟩,
     ⟨(some 7), none, .move (.c (.int .i64 2))⟩] (some [6, 7]))
   .ret)
   (.seq (.ops [⟨(some 18), none, .move (.t 1)⟩,
     ⟨(some 19), none, .call (.c (.func (.func 34) #[] #[])) [(.t 18)]⟩,
     ⟨(some 20), none, .un .not (.t 19)⟩,
     ⟨(some 17), none, .move (.t 20)⟩] (some [0, 1, 2, 17]))
   (.cond (.t 17)
    (.seq (.ops [⟨(some 6), none, .move (.c (.int .i64 0))⟩,
      ⟨(some 7), none, .move (.c (.int .i64 1))⟩] (some [6, 7]))
    .ret)
    .skip)))))
 (.seq (.seq (.ops [⟨(some 21), none, .move (.t 0)⟩,
   ⟨(some 22), none, .move (.t 1)⟩,
   ⟨(some 23), none, .call (.c (.func (.func 35) #[] #[])) [(.t 21), (.t 22)]⟩,
   ⟨(some 8), none, .move (.t 23)⟩] (some [0, 1, 2, 8]))
 (.seq (.ops [⟨(some 24), none, .move (.t 8)⟩,
   ⟨(some 25), none, .bin .neq 28 (.t 24) (.c (.int .i64 0))⟩] (some [0, 1, 2, 8, 25]))
 (.cond (.t 25)
  (.seq (.ops [⟨(some 26), none, .move (.t 8)⟩,
    ⟨(some 6), none, .move (.c (.int .i64 0))⟩,
    ⟨(some 7), none, .move (.t 26)⟩] (some [6, 7]))
  .ret)
  .skip)))
 (.seq (.ops [⟨(some 28), none, .move (.t 0)⟩,
   ⟨(some 29), none, .nilCheck (.t 28)⟩,
   ⟨(some 30), none, .fieldAddr 4 (.t 29)⟩,
   ⟨(some 31), none, .load false 1 (.t 30)⟩,
   ⟨(some 32), none, .move (.t 2)⟩,
   ⟨(some 33), none, .call (.c (.func (.func 36) #[] #[])) [(.t 31), (.t 32)]⟩,
   ⟨(some 27), none, .move (.t 33)⟩,
   ⟨(some 34), none, .extract (.t 27) 0⟩,
   ⟨(some 35), none, .extract (.t 27) 1⟩,
   ⟨(some 9), none, .move (.t 34)⟩,
   ⟨(some 10), none, .move (.t 35)⟩] (some [0, 1, 9, 10]))
 (.seq (.seq (.ops [⟨(some 36), none, .move (.t 10)⟩,
   ⟨(some 37), none, .bin .neq 28 (.t 36) (.c (.int .i64 0))⟩] (some [0, 1, 9, 10, 37]))
 (.cond (.t 37)
  (.seq (.ops [⟨(some 38), none, .move (.t 10)⟩,
    ⟨(some 6), none, .move (.c (.int .i64 0))⟩,
    ⟨(some 7), none, .move (.t 38)⟩] (some [6, 7]))
  .ret)
  .skip))
 (.seq (.seq (.ops [⟨(some 39), none, .move (.t 1)⟩,
   ⟨(some 40), none, .len (.t 39)⟩,
   ⟨(some 41), none, .move (.c (.int .i64 0))⟩] (some [0, 9, 39, 40, 41]))
 (.block 1
  (.loop
   (.seq (.ops [⟨(some 42), none, .bin .lss 3 (.t 41) (.t 40)⟩] (some [0, 9, 39, 40, 41, 42]))
   (.seq (.cond (.t 42)
    .skip
    (.exit 1))
   (.seq (.block 2
    (.seq (.ops [⟨(some 43), none, .indexAddr 5 (.t 39) (.t 41)⟩,
      ⟨(some 44), none, .load true 5 (.t 43)⟩,
      ⟨(some 12), none, .alloc [(.string .empty), (.bool false), (.bool false), (.string .empty), (.int .u64 0)]⟩,
      ⟨none, none, .store 5 (.t 12) (.t 44)⟩] (some [0, 9, 12, 39, 40, 41]))
    (.seq (.ops [⟨(some 45), none, .move (.t 0)⟩,
      ⟨(some 46), none, .fieldAddr 0 (.t 12)⟩,
      ⟨(some 47), none, .load false 1 (.t 46)⟩,
      ⟨(some 48), none, .move (.t 9)⟩,
      ⟨(some 49), none, .fieldAddr 1 (.t 12)⟩,
      ⟨(some 50), none, .load false 1 (.t 49)⟩,
      ⟨(some 51), none, .fieldAddr 2 (.t 12)⟩,
      ⟨(some 52), none, .load true 3 (.t 51)⟩,
      ⟨(some 53), none, .build [(.int .i64 0), (.bool false), (.bool false), (.string .empty), (.int .u64 0)] [(0, 1), (1, 1), (2, 3)] [(0, (.t 48)), (1, (.t 50)), (2, (.t 52))]⟩,
      ⟨(some 54), none, .call (.c (.func (.func 37) #[] #[])) [(.t 45), (.t 47), (.t 53)]⟩,
      ⟨(some 13), none, .move (.t 54)⟩] (some [0, 9, 13, 39, 40, 41]))
    (.seq (.ops [⟨(some 55), none, .move (.t 13)⟩,
      ⟨(some 56), none, .bin .neq 28 (.t 55) (.c (.int .i64 0))⟩] (some [0, 9, 13, 39, 40, 41, 56]))
    (.cond (.t 56)
     (.seq (.ops [⟨(some 57), none, .move (.t 13)⟩,
       ⟨(some 6), none, .move (.c (.int .i64 0))⟩,
       ⟨(some 7), none, .move (.t 57)⟩] (some [6, 7]))
     .ret)
     .skip)))))
   (.ops [⟨(some 58), none, .bin .add 3 (.t 41) (.c (.int .i64 1))⟩,
     ⟨(some 41), none, .move (.t 58)⟩] (some [0, 9, 39, 40, 41]))))))))
 (.seq (.ops [⟨(some 59), none, .move (.t 9)⟩,
   ⟨(some 6), none, .move (.t 59)⟩,
   ⟨(some 7), none, .move (.c (.int .i64 0))⟩] (some [6, 7]))
 .ret))))))), [.tmp 6, .tmp 7]⟩

/-- (*cloisonne/room.Room).Setting -/
def x11 : XDecl := .code ⟨1, 
 (.seq (.ops [⟨(some 2), none, .alloc [(.slice none 0 0), (.int .i64 0), (.int .i64 0), (.int .i64 0)]⟩] (some [0, 2]))
 (.seq (.seq (.ops [⟨(some 4), none, .move (.t 0)⟩,
   ⟨(some 5), none, .isNil .ptr false (.t 4)⟩] (some [0, 2, 5]))
 (.cond (.t 5)
  (.seq (.ops [⟨(some 6), none, .build [(.slice none 0 0), (.int .i64 0), (.int .i64 0), (.int .i64 0)] [(0, 1), (1, 1), (2, 1), (3, 1)] []⟩,
    ⟨none, none, .store 4 (.t 2) (.t 6)⟩] (some [2]))
  .ret)
  .skip))
 (.seq (.ops [⟨(some 7), none, .move (.t 0)⟩,
   ⟨(some 8), none, .nilCheck (.t 7)⟩,
   ⟨(some 9), none, .fieldAddr 0 (.t 8)⟩,
   ⟨(some 10), none, .load true 4 (.t 9)⟩,
   ⟨(some 3), none, .alloc [(.slice none 0 0), (.int .i64 0), (.int .i64 0), (.int .i64 0)]⟩,
   ⟨none, none, .store 4 (.t 3) (.t 10)⟩] (some [2, 3]))
 (.seq (.ops [⟨(some 11), none, .fieldAddr 0 (.t 3)⟩,
   ⟨(some 12), none, .load false 1 (.t 11)⟩,
   ⟨(some 13), none, .call (.c (.func (.func 38) #[] #[])) [(.t 12)]⟩,
   ⟨(some 14), none, .fieldAddr 0 (.t 3)⟩,
   ⟨none, none, .store 1 (.t 14) (.t 13)⟩] (some [2, 3]))
 (.seq (.ops [⟨(some 15), none, .load true 4 (.t 3)⟩,
   ⟨none, none, .store 4 (.t 2) (.t 15)⟩] (some [2]))
 .ret))))), [.cell true 4 2]⟩

/-- (*cloisonne/room.Room).Check -/
def x12 : XDecl := .code ⟨3, 
 (.seq (.ops [⟨(some 6), none, .move (.c (.int .i64 0))⟩] (some [0, 1, 2]))
 (.seq (.block 0
  (.seq (.ops [⟨(some 12), none, .move (.t 0)⟩,
    ⟨(some 13), none, .isNil .ptr false (.t 12)⟩,
    ⟨(some 11), none, .move (.t 13)⟩] (some [0, 1, 2, 11]))
  (.cond (.t 11)
   (.seq (.ops [⟨(some 6), none, .move (.c (.int .i64 2))⟩] (some [6]))
   .ret)
   (.seq (.ops [⟨(some 15), none, .move (.t 1)⟩,
     ⟨(some 16), none, .call (.c (.func (.func 34) #[] #[])) [(.t 15)]⟩,
     ⟨(some 17), none, .un .not (.t 16)⟩,
     ⟨(some 14), none, .move (.t 17)⟩] (some [0, 1, 2, 14]))
   (.cond (.t 14)
    (.seq (.ops [⟨(some 6), none, .move (.c (.int .i64 1))⟩] (some [6]))
    .ret)
    (.seq (.ops [⟨(some 19), none, .move (.t 2)⟩,
      ⟨(some 20), none, .move (.t 0)⟩,
      ⟨(some 21), none, .call (.c (.func (.func 19) #[] #[])) [(.t 20)]⟩,
      ⟨(some 22), none, .move (.t 0)⟩,
      ⟨(some 23), none, .call (.c (.func (.func 18) #[] #[])) [(.t 22)]⟩,
      ⟨(some 24), none, .call (.c (.func (.func 39) #[] #[])) [(.t 19), (.t 21), (.t 23)]⟩,
      ⟨(some 25), none, .un .not (.t 24)⟩,
      ⟨(some 18), none, .move (.t 25)⟩] (some [0, 1, 2, 18]))
    (.cond (.t 18)
     (.seq (.ops [⟨(some 6), none, .move (.c (.int .i64 14))⟩] (some [6]))
     .ret)
     .skip)))))))
 (.seq (.seq (.ops [⟨(some 26), none, .move (.t 1)⟩,
   ⟨(some 27), none, .len (.t 26)⟩,
   ⟨(some 28), none, .move (.c (.int .i64 0))⟩] (some [0, 1, 2, 26, 27, 28]))
 (.block 1
  (.loop
   (.seq (.ops [⟨(some 29), none, .bin .lss 3 (.t 28) (.t 27)⟩] (some [0, 1, 2, 26, 27, 28, 29]))
   (.seq (.cond (.t 29)
    .skip
    (.exit 1))
   (.seq (.block 2
    (.seq (.ops [⟨(some 30), none, .indexAddr 5 (.t 26) (.t 28)⟩,
      ⟨(some 31), none, .load true 5 (.t 30)⟩,
      ⟨(some 8), none, .alloc [(.string .empty), (.bool false), (.bool false), (.string .empty), (.int .u64 0)]⟩,
      ⟨none, none, .store 5 (.t 8) (.t 31)⟩] (some [0, 1, 2, 8, 26, 27, 28]))
    (.seq (.ops [⟨(some 33), none, .move (.t 0)⟩,
      ⟨(some 34), none, .fieldAddr 0 (.t 8)⟩,
      ⟨(some 35), none, .load false 1 (.t 34)⟩,
      ⟨(some 36), none, .call (.c (.func (.func 30) #[] #[])) [(.t 33), (.t 35)]⟩,
      ⟨(some 37), none, .call (.c (.func (.func 40) #[] #[])) [(.t 36)]⟩,
      ⟨(some 32), none, .move (.t 37)⟩,
      ⟨(some 38), none, .extract (.t 32) 0⟩,
      ⟨(some 39), none, .extract (.t 32) 1⟩,
      ⟨(some 9), none, .alloc [(.int .i64 0), (.bool false), (.bool false), (.string .empty), (.int .u64 0)]⟩,
      ⟨none, none, .store 5 (.t 9) (.t 38)⟩,
      ⟨(some 10), none, .move (.t 39)⟩] (some [0, 1, 2, 9, 10, 26, 27, 28]))
    (.seq (.ops [⟨(some 40), none, .move (.t 10)⟩,
      ⟨(some 41), none, .move (.t 40)⟩,
      ⟨(some 42), (some (41, true)), .fieldAddr 0 (.t 9)⟩,
      ⟨(some 43), (some (41, true)), .load false 1 (.t 42)⟩,
      ⟨(some 44), (some (41, true)), .move (.t 2)⟩,
      ⟨(some 45), (some (41, true)), .bin .gtr 3 (.t 43) (.t 44)⟩,
      ⟨(some 46), none, .pick (.t 41) (.t 45) (.c (.bool false))⟩] (some [0, 1, 2, 26, 27, 28, 46]))
    (.cond (.t 46)
     (.seq (.ops [⟨(some 6), none, .move (.c (.int .i64 13))⟩] (some [6]))
     .ret)
     .skip)))))
   (.ops [⟨(some 47), none, .bin .add 3 (.t 28) (.c (.int .i64 1))⟩,
     ⟨(some 28), none, .move (.t 47)⟩] (some [0, 1, 2, 26, 27, 28]))))))))
 (.seq (.ops [⟨(some 48), none, .move (.t 0)⟩,
   ⟨(some 49), none, .move (.t 1)⟩,
   ⟨(some 50), none, .call (.c (.func (.func 35) #[] #[])) [(.t 48), (.t 49)]⟩,
   ⟨(some 6), none, .move (.t 50)⟩] (some [6]))
 .ret)))), [.tmp 6]⟩

/-- (*cloisonne/room.Room).Sweep -/
def x13 : XDecl := .code ⟨1, 
 (.seq (.ops [⟨(some 2), none, .move (.c (.int .i64 0))⟩] (some [0]))
 (.seq (.ops [⟨(some 3), none, .move (.c (.int .i64 0))⟩] (some [0, 3]))
 (.seq (.seq (.ops [⟨(some 8), none, .move (.t 0)⟩,
   ⟨(some 9), none, .call (.c (.func (.func 41) #[] #[])) [(.t 8)]⟩,
   ⟨(some 10), none, .len (.t 9)⟩,
   ⟨(some 11), none, .move (.c (.int .i64 0))⟩] (some [0, 3, 9, 10, 11]))
 (.block 0
  (.loop
   (.seq (.ops [⟨(some 12), none, .bin .lss 3 (.t 11) (.t 10)⟩] (some [0, 3, 9, 10, 11, 12]))
   (.seq (.cond (.t 12)
    .skip
    (.exit 0))
   (.seq (.block 1
    (.seq (.ops [⟨(some 13), none, .indexAddr 1 (.t 9) (.t 11)⟩,
      ⟨(some 14), none, .load false 1 (.t 13)⟩,
      ⟨(some 5), none, .move (.t 14)⟩] (some [0, 3, 5, 9, 10, 11]))
    (.seq (.ops [⟨(some 15), none, .move (.t 0)⟩,
      ⟨(some 16), none, .move (.t 5)⟩,
      ⟨(some 17), none, .call (.c (.func (.func 30) #[] #[])) [(.t 15), (.t 16)]⟩,
      ⟨(some 6), none, .move (.t 17)⟩] (some [0, 3, 5, 6, 9, 10, 11]))
    (.seq (.ops [⟨(some 18), none, .move (.t 6)⟩,
      ⟨(some 19), none, .move (.t 0)⟩,
      ⟨(some 20), none, .call (.c (.func (.func 19) #[] #[])) [(.t 19)]⟩,
      ⟨(some 21), none, .call (.c (.func (.func 42) #[] #[])) [(.t 18), (.t 20)]⟩,
      ⟨(some 7), none, .move (.t 21)⟩] (some [0, 3, 5, 6, 7, 9, 10, 11]))
    (.seq (.seq (.ops [⟨(some 22), none, .move (.t 7)⟩,
      ⟨(some 23), none, .bin .gtr 3 (.t 22) (.c (.int .i64 0))⟩] (some [0, 3, 5, 6, 7, 9, 10, 11, 23]))
    (.cond (.t 23)
     (.ops [⟨(some 24), none, .move (.t 0)⟩,
       ⟨(some 25), none, .move (.t 5)⟩,
       ⟨(some 26), none, .move (.t 6)⟩,
       ⟨(some 27), none, .move (.t 0)⟩,
       ⟨(some 28), none, .call (.c (.func (.func 19) #[] #[])) [(.t 27)]⟩,
       ⟨(some 29), none, .call (.c (.func (.func 44) #[] #[])) [(.t 26), (.t 28)]⟩,
       ⟨(some 30), none, .call (.c (.func (.func 43) #[] #[])) [(.t 24), (.t 25), (.t 29)]⟩] (some [0, 3, 7, 9, 10, 11]))
     .skip))
    (.ops [⟨(some 31), none, .move (.t 3)⟩,
      ⟨(some 32), none, .move (.t 7)⟩,
      ⟨(some 33), none, .bin .add 3 (.t 31) (.t 32)⟩,
      ⟨(some 3), none, .move (.t 33)⟩] (some [0, 3, 9, 10, 11])))))))
   (.ops [⟨(some 34), none, .bin .add 3 (.t 11) (.c (.int .i64 1))⟩,
     ⟨(some 11), none, .move (.t 34)⟩] (some [0, 3, 9, 10, 11]))))))))
 (.seq (.ops [⟨(some 35), none, .move (.t 3)⟩,
   ⟨(some 2), none, .move (.t 35)⟩] (some [2]))
 .ret)))), [.tmp 2]⟩

/-- (*cloisonne/room.Room).Live -/
def x14 : XDecl := .code ⟨1, 
 (.seq (.ops [⟨(some 2), none, .move (.c (.int .i64 0))⟩] (some [0]))
 (.seq (.seq (.ops [⟨(some 3), none, .move (.t 0)⟩,
   ⟨(some 4), none, .isNil .ptr false (.t 3)⟩] (some [0, 4]))
 (.cond (.t 4)
  (.seq (.ops [⟨(some 2), none, .move (.c (.int .i64 0))⟩] (some [2]))
  .ret)
  .skip))
 (.seq (.ops [⟨(some 5), none, .move (.t 0)⟩,
   ⟨(some 6), none, .nilCheck (.t 5)⟩,
   ⟨(some 7), none, .fieldAddr 8 (.t 6)⟩,
   ⟨(some 8), none, .load false 1 (.t 7)⟩,
   ⟨(some 2), none, .move (.t 8)⟩] (some [2]))
 .ret))), [.tmp 2]⟩

/-- (*cloisonne/room.Room).Keys -/
def x15 : XDecl := .code ⟨1, 
 (.seq (.ops [⟨(some 2), none, .move (.c (.int .i64 0))⟩] (some [0]))
 (.seq (.seq (.ops [⟨(some 3), none, .move (.t 0)⟩,
   ⟨(some 4), none, .isNil .ptr false (.t 3)⟩] (some [0, 4]))
 (.cond (.t 4)
  (.seq (.ops [⟨(some 2), none, .move (.c (.int .i64 0))⟩] (some [2]))
  .ret)
  .skip))
 (.seq (.ops [⟨(some 5), none, .move (.t 0)⟩,
   ⟨(some 6), none, .nilCheck (.t 5)⟩,
   ⟨(some 7), none, .fieldAddr 9 (.t 6)⟩,
   ⟨(some 8), none, .load false 1 (.t 7)⟩,
   ⟨(some 2), none, .move (.t 8)⟩] (some [2]))
 .ret))), [.tmp 2]⟩

/-- (*cloisonne/room.Room).Versions -/
def x16 : XDecl := .code ⟨1, 
 (.seq (.ops [⟨(some 2), none, .move (.c (.int .i64 0))⟩] (some [0]))
 (.seq (.seq (.ops [⟨(some 3), none, .move (.t 0)⟩,
   ⟨(some 4), none, .isNil .ptr false (.t 3)⟩] (some [0, 4]))
 (.cond (.t 4)
  (.seq (.ops [⟨(some 2), none, .move (.c (.int .i64 0))⟩] (some [2]))
  .ret)
  .skip))
 (.seq (.ops [⟨(some 5), none, .move (.t 0)⟩,
   ⟨(some 6), none, .nilCheck (.t 5)⟩,
   ⟨(some 7), none, .fieldAddr 10 (.t 6)⟩,
   ⟨(some 8), none, .load false 1 (.t 7)⟩,
   ⟨(some 2), none, .move (.t 8)⟩] (some [2]))
 .ret))), [.tmp 2]⟩

/-- (*cloisonne/room.Room).Entries -/
def x17 : XDecl := .code ⟨1, 
 (.seq (.ops [⟨(some 2), none, .move (.c (.slice none 0 0))⟩] (some [0]))
 (.seq (.ops [⟨(some 3), none, .move (.c (.slice none 0 0))⟩] (some [0, 3]))
 (.seq (.seq (.ops [⟨(some 8), none, .move (.t 0)⟩,
   ⟨(some 9), none, .call (.c (.func (.func 41) #[] #[])) [(.t 8)]⟩,
   ⟨(some 10), none, .len (.t 9)⟩,
   ⟨(some 11), none, .move (.c (.int .i64 0))⟩] (some [0, 3, 9, 10, 11]))
 (.block 0
  (.loop
   (.seq (.ops [⟨(some 12), none, .bin .lss 3 (.t 11) (.t 10)⟩] (some [0, 3, 9, 10, 11, 12]))
   (.seq (.cond (.t 12)
    .skip
    (.exit 0))
   (.seq (.block 1
    (.seq (.ops [⟨(some 13), none, .indexAddr 1 (.t 9) (.t 11)⟩,
      ⟨(some 14), none, .load false 1 (.t 13)⟩,
      ⟨(some 5), none, .move (.t 14)⟩] (some [0, 3, 5, 9, 10, 11]))
    (.seq (.ops [⟨(some 16), none, .move (.t 0)⟩,
      ⟨(some 17), none, .move (.t 5)⟩,
      ⟨(some 18), none, .call (.c (.func (.func 30) #[] #[])) [(.t 16), (.t 17)]⟩,
      ⟨(some 19), none, .move (.t 0)⟩,
      ⟨(some 20), none, .call (.c (.func (.func 18) #[] #[])) [(.t 19)]⟩,
      ⟨(some 21), none, .call (.c (.func (.func 29) #[] #[])) [(.t 18), (.t 20)]⟩,
      ⟨(some 15), none, .move (.t 21)⟩,
      ⟨(some 22), none, .extract (.t 15) 0⟩,
      ⟨(some 23), none, .extract (.t 15) 1⟩,
      ⟨(some 6), none, .alloc [(.int .i64 0), (.bool false), (.bool false), (.string .empty), (.int .u64 0)]⟩,
      ⟨none, none, .store 5 (.t 6) (.t 22)⟩,
      ⟨(some 7), none, .move (.t 23)⟩] (some [0, 3, 5, 6, 7, 9, 10, 11]))
    (.seq (.ops [⟨(some 24), none, .move (.t 7)⟩] (some [0, 3, 5, 6, 9, 10, 11, 24]))
    (.cond (.t 24)
     (.ops [⟨(some 25), none, .move (.t 3)⟩,
       ⟨(some 26), none, .move (.t 5)⟩,
       ⟨(some 27), none, .fieldAddr 0 (.t 6)⟩,
       ⟨(some 28), none, .load false 1 (.t 27)⟩,
       ⟨(some 29), none, .fieldAddr 2 (.t 6)⟩,
       ⟨(some 30), none, .load true 3 (.t 29)⟩,
       ⟨(some 31), none, .build [(.string .empty), (.int .i64 0), (.bool false), (.string .empty), (.int .u64 0)] [(0, 1), (1, 1), (2, 3)] [(0, (.t 26)), (1, (.t 28)), (2, (.t 30))]⟩,
       ⟨(some 32), none, .buildSlice [(.string .empty), (.int .i64 0), (.bool false), (.string .empty), (.int .u64 0)] 5 1 [(0, (.t 31))]⟩,
       ⟨(some 33), none, .append 5 56 [(.string .empty), (.int .i64 0), (.bool false), (.string .empty), (.int .u64 0)] (.t 25) (.t 32)⟩,
       ⟨(some 3), none, .move (.t 33)⟩] (some [0, 3, 9, 10, 11]))
     .skip)))))
   (.ops [⟨(some 34), none, .bin .add 3 (.t 11) (.c (.int .i64 1))⟩,
     ⟨(some 11), none, .move (.t 34)⟩] (some [0, 3, 9, 10, 11]))))))))
 (.seq (.ops [⟨(some 35), none, .move (.t 3)⟩,
   ⟨(some 2), none, .move (.t 35)⟩] (some [2]))
 .ret)))), [.tmp 2]⟩

/-- (*cloisonne/room.Room).Seq -/
def x18 : XDecl := .code ⟨1, 
 (.seq (.ops [⟨(some 2), none, .move (.c (.int .i64 0))⟩] (some [0]))
 (.seq (.seq (.ops [⟨(some 3), none, .move (.t 0)⟩,
   ⟨(some 4), none, .isNil .ptr false (.t 3)⟩] (some [0, 4]))
 (.cond (.t 4)
  (.seq (.ops [⟨(some 2), none, .move (.c (.int .i64 0))⟩] (some [2]))
  .ret)
  .skip))
 (.seq (.ops [⟨(some 5), none, .move (.t 0)⟩,
   ⟨(some 6), none, .nilCheck (.t 5)⟩,
   ⟨(some 7), none, .fieldAddr 4 (.t 6)⟩,
   ⟨(some 8), none, .load false 1 (.t 7)⟩,
   ⟨(some 9), none, .call (.c (.func (.func 45) #[] #[])) [(.t 8)]⟩,
   ⟨(some 2), none, .move (.t 9)⟩] (some [2]))
 .ret))), [.tmp 2]⟩

/-- (*cloisonne/room.Room).Floor -/
def x19 : XDecl := .code ⟨1, 
 (.seq (.ops [⟨(some 2), none, .move (.c (.int .i64 0))⟩] (some [0]))
 (.seq (.seq (.ops [⟨(some 3), none, .move (.t 0)⟩,
   ⟨(some 4), none, .isNil .ptr false (.t 3)⟩] (some [0, 4]))
 (.cond (.t 4)
  (.seq (.ops [⟨(some 2), none, .move (.c (.int .i64 0))⟩] (some [2]))
  .ret)
  .skip))
 (.seq (.ops [⟨(some 5), none, .move (.t 0)⟩,
   ⟨(some 6), none, .nilCheck (.t 5)⟩,
   ⟨(some 7), none, .fieldAddr 4 (.t 6)⟩,
   ⟨(some 8), none, .load false 1 (.t 7)⟩,
   ⟨(some 9), none, .call (.c (.func (.func 46) #[] #[])) [(.t 8)]⟩,
   ⟨(some 2), none, .move (.t 9)⟩] (some [2]))
 .ret))), [.tmp 2]⟩

/-- cloisonne/room.New -/
def x23 : XDecl := .code ⟨1, 
 (.seq (.ops [⟨(some 1), none, .box (.t 0)⟩,
   ⟨(some 2), none, .move (.c (.pointer none))⟩,
   ⟨(some 3), none, .move (.c (.int .i64 0))⟩] (some [1]))
 (.seq (.ops [⟨(some 4), none, .load true 4 (.t 1)⟩,
   ⟨(some 5), none, .call (.c (.func (.func 50) #[] #[])) [(.t 4), (.c (.int .i64 0))]⟩,
   ⟨(some 6), none, .extract (.t 5) 0⟩,
   ⟨(some 7), none, .extract (.t 5) 1⟩,
   ⟨(some 2), none, .move (.t 6)⟩,
   ⟨(some 3), none, .move (.t 7)⟩] (some [2, 3]))
 .ret)), [.tmp 2, .tmp 3]⟩

/-- (*cloisonne/ring.Ring).AsOf -/
def x28 : XDecl := .code ⟨2, 
 (.seq (.ops [⟨(some 4), none, .move (.c (.int .i64 0))⟩,
   ⟨(some 5), none, .move (.c (.int .i64 0))⟩] (some [0, 1]))
 (.seq (.seq (.ops [⟨(some 9), none, .move (.t 0)⟩,
   ⟨(some 10), none, .isNil .ptr false (.t 9)⟩] (some [0, 1, 10]))
 (.cond (.t 10)
  (.seq (.ops [⟨(some 4), none, .move (.c (.int .i64 0))⟩,
    ⟨(some 5), none, .move (.c (.int .i64 2))⟩] (some [4, 5]))
  .ret)
  .skip))
 (.seq (.ops [⟨(some 12), none, .move (.t 0)⟩,
   ⟨(some 13), none, .nilCheck (.t 12)⟩,
   ⟨(some 14), none, .fieldAddr 3 (.t 13)⟩,
   ⟨(some 15), none, .load false 1 (.t 14)⟩,
   ⟨(some 16), none, .move (.t 1)⟩,
   ⟨(some 17), none, .call (.c (.func (.func 52) #[] #[])) [(.t 15), (.t 16)]⟩,
   ⟨(some 11), none, .move (.t 17)⟩,
   ⟨(some 18), none, .extract (.t 11) 0⟩,
   ⟨(some 19), none, .extract (.t 11) 1⟩,
   ⟨(some 6), none, .move (.t 18)⟩,
   ⟨(some 7), none, .move (.t 19)⟩] (some [0, 6, 7]))
 (.seq (.seq (.ops [⟨(some 20), none, .move (.t 7)⟩] (some [0, 6, 20]))
 (.cond (.t 20)
  (.ops [⟨(some 21), none, .move (.t 6)⟩,
    ⟨(some 22), none, .bin .add 3 (.t 21) (.c (.int .i64 1))⟩,
    ⟨(some 6), none, .move (.t 22)⟩] (some [0, 6]))
  .skip))
 (.seq (.opsr [⟨(some 23), none, .move (.t 0)⟩,
   ⟨(some 24), none, .nilCheck (.t 23)⟩,
   ⟨(some 25), none, .fieldAddr 2 (.t 24)⟩,
   ⟨(some 26), none, .load false 1 (.t 25)⟩,
   ⟨(some 27), none, .move (.t 0)⟩,
   ⟨(some 28), none, .nilCheck (.t 27)⟩,
   ⟨(some 29), none, .fieldAddr 3 (.t 28)⟩,
   ⟨(some 30), none, .load false 1 (.t 29)⟩,
   ⟨(some 31), none, .len (.t 30)⟩,
   ⟨(some 32), none, .bin .sub 3 (.t 26) (.t 31)⟩,
   ⟨(some 33), none, .move (.t 6)⟩,
   ⟨(some 34), none, .bin .add 3 (.t 32) (.t 33)⟩,
   ⟨(some 8), none, .move (.t 34)⟩] (some [0, 8]))
 (.seq (.seq (.ops [⟨(some 35), none, .move (.t 8)⟩,
   ⟨(some 36), none, .move (.t 0)⟩,
   ⟨(some 37), none, .call (.c (.func (.func 46) #[] #[])) [(.t 36)]⟩,
   ⟨(some 38), none, .bin .lss 3 (.t 35) (.t 37)⟩] (some [8, 38]))
 (.cond (.t 38)
  (.seq (.ops [⟨(some 4), none, .move (.c (.int .i64 0))⟩,
    ⟨(some 5), none, .move (.c (.int .i64 14))⟩] (some [4, 5]))
  .ret)
  .skip))
 (.seq (.ops [⟨(some 39), none, .move (.t 8)⟩,
   ⟨(some 4), none, .move (.t 39)⟩,
   ⟨(some 5), none, .move (.c (.int .i64 0))⟩] (some [4, 5]))
 .ret))))))), [.tmp 4, .tmp 5]⟩

/-- cloisonne/chain.At -/
def x29 : XDecl := .code ⟨2, 
 (.seq (.ops [⟨(some 4), none, .alloc [(.int .i64 0), (.bool false), (.bool false), (.string .empty), (.int .u64 0)]⟩,
   ⟨(some 5), none, .move (.c (.bool false))⟩] (some [0, 1, 4]))
 (.seq (.seq (.ops [⟨(some 7), none, .move (.t 0)⟩,
   ⟨(some 8), none, .call (.c (.func (.func 53) #[] #[])) [(.t 7)]⟩,
   ⟨(some 9), none, .un .not (.t 8)⟩,
   ⟨(some 10), none, .move (.t 9)⟩,
   ⟨(some 11), (some (10, false)), .move (.t 1)⟩,
   ⟨(some 12), (some (10, false)), .bin .lss 3 (.t 11) (.c (.int .i64 1))⟩,
   ⟨(some 13), none, .pick (.t 10) (.c (.bool true)) (.t 12)⟩] (some [0, 1, 4, 13]))
 (.cond (.t 13)
  (.seq (.ops [⟨(some 14), none, .build [(.int .i64 0), (.bool false), (.bool false), (.string .empty), (.int .u64 0)] [(0, 1), (1, 1), (2, 3)] []⟩,
    ⟨none, none, .store 5 (.t 4) (.t 14)⟩,
    ⟨(some 5), none, .move (.c (.bool false))⟩] (some [4, 5]))
  .ret)
  .skip))
 (.seq (.ops [⟨(some 15), none, .move (.t 0)⟩,
   ⟨(some 16), none, .move (.t 1)⟩,
   ⟨(some 17), none, .call (.c (.func (.func 54) #[] #[])) [(.t 15), (.t 16)]⟩,
   ⟨(some 6), none, .move (.t 17)⟩] (some [0, 4, 6]))
 (.seq (.seq (.ops [⟨(some 18), none, .move (.t 6)⟩,
   ⟨(some 19), none, .bin .eql 3 (.t 18) (.c (.int .i64 0))⟩,
   ⟨(some 20), none, .move (.t 19)⟩,
   ⟨(some 21), (some (20, false)), .move (.t 0)⟩,
   ⟨(some 22), (some (20, false)), .move (.t 6)⟩,
   ⟨(some 23), (some (20, false)), .bin .sub 3 (.t 22) (.c (.int .i64 1))⟩,
   ⟨(some 24), (some (20, false)), .indexAddr 5 (.t 21) (.t 23)⟩,
   ⟨(some 25), (some (20, false)), .fieldAddr 1 (.t 24)⟩,
   ⟨(some 26), (some (20, false)), .load false 1 (.t 25)⟩,
   ⟨(some 27), none, .pick (.t 20) (.c (.bool true)) (.t 26)⟩] (some [0, 4, 6, 27]))
 (.cond (.t 27)
  (.seq (.ops [⟨(some 28), none, .build [(.int .i64 0), (.bool false), (.bool false), (.string .empty), (.int .u64 0)] [(0, 1), (1, 1), (2, 3)] []⟩,
    ⟨none, none, .store 5 (.t 4) (.t 28)⟩,
    ⟨(some 5), none, .move (.c (.bool false))⟩] (some [4, 5]))
  .ret)
  .skip))
 (.seq (.ops [⟨(some 29), none, .move (.t 0)⟩,
   ⟨(some 30), none, .move (.t 6)⟩,
   ⟨(some 31), none, .bin .sub 3 (.t 30) (.c (.int .i64 1))⟩,
   ⟨(some 32), none, .indexAddr 5 (.t 29) (.t 31)⟩,
   ⟨(some 33), none, .load true 5 (.t 32)⟩,
   ⟨none, none, .store 5 (.t 4) (.t 33)⟩,
   ⟨(some 5), none, .move (.c (.bool true))⟩] (some [4, 5]))
 .ret))))), [.cell true 5 4, .tmp 5]⟩

/-- (*cloisonne/room.Room).chain -/
def x30 : XDecl := .code ⟨2, 
 (.seq (.ops [⟨(some 4), none, .move (.c (.slice none 0 0))⟩] (some [0, 1]))
 (.seq (.seq (.ops [⟨(some 7), none, .move (.t 0)⟩,
   ⟨(some 8), none, .isNil .ptr false (.t 7)⟩] (some [0, 1, 8]))
 (.cond (.t 8)
  (.seq (.ops [⟨(some 4), none, .move (.c (.slice none 0 0))⟩] (some [4]))
  .ret)
  .skip))
 (.seq (.ops [⟨(some 10), none, .move (.t 0)⟩,
   ⟨(some 11), none, .nilCheck (.t 10)⟩,
   ⟨(some 12), none, .fieldAddr 5 (.t 11)⟩,
   ⟨(some 13), none, .load false 1 (.t 12)⟩,
   ⟨(some 14), none, .move (.t 1)⟩,
   ⟨(some 15), none, .call (.c (.func (.func 55) #[] #[])) [(.t 13), (.t 14)]⟩,
   ⟨(some 9), none, .move (.t 15)⟩,
   ⟨(some 16), none, .extract (.t 9) 0⟩,
   ⟨(some 17), none, .extract (.t 9) 1⟩,
   ⟨(some 5), none, .move (.t 16)⟩,
   ⟨(some 6), none, .move (.t 17)⟩] (some [0, 5, 6]))
 (.seq (.seq (.ops [⟨(some 18), none, .move (.t 6)⟩,
   ⟨(some 19), none, .un .not (.t 18)⟩] (some [0, 5, 19]))
 (.cond (.t 19)
  (.seq (.ops [⟨(some 4), none, .move (.c (.slice none 0 0))⟩] (some [4]))
  .ret)
  .skip))
 (.seq (.ops [⟨(some 20), none, .move (.t 0)⟩,
   ⟨(some 21), none, .nilCheck (.t 20)⟩,
   ⟨(some 22), none, .fieldAddr 6 (.t 21)⟩,
   ⟨(some 23), none, .load false 1 (.t 22)⟩,
   ⟨(some 24), none, .move (.t 5)⟩,
   ⟨(some 25), none, .indexAddr 1 (.t 23) (.t 24)⟩,
   ⟨(some 26), none, .load false 1 (.t 25)⟩,
   ⟨(some 4), none, .move (.t 26)⟩] (some [4]))
 .ret))))), [.tmp 4]⟩

/-- (*cloisonne/tree.Tree).After -/
def x31 : XDecl := .code ⟨2, 
 (.seq (.ops [⟨(some 4), none, .move (.c (.string .empty))⟩,
   ⟨(some 5), none, .move (.c (.int .i64 0))⟩,
   ⟨(some 6), none, .move (.c (.bool false))⟩] (some [0, 1]))
 (.seq (.seq (.ops [⟨(some 7), none, .move (.t 0)⟩,
   ⟨(some 8), none, .call (.c (.func (.func 56) #[] #[])) [(.t 7)]⟩,
   ⟨(some 9), none, .un .not (.t 8)⟩] (some [0, 1, 9]))
 (.cond (.t 9)
  (.seq (.ops [⟨(some 4), none, .move (.c (.string .empty))⟩,
    ⟨(some 5), none, .move (.c (.int .i64 0))⟩,
    ⟨(some 6), none, .move (.c (.bool false))⟩] (some [4, 5, 6]))
  .ret)
  .skip))
 (.seq (.ops [⟨(some 10), none, .move (.t 0)⟩,
   ⟨(some 11), none, .move (.t 0)⟩,
   ⟨(some 12), none, .nilCheck (.t 11)⟩,
   ⟨(some 13), none, .fieldAddr 2 (.t 12)⟩,
   ⟨(some 14), none, .load false 1 (.t 13)⟩,
   ⟨(some 15), none, .move (.t 1)⟩,
   ⟨(some 16), none, .call (.c (.func (.func 57) #[] #[])) [(.t 10), (.t 14), (.t 15), (.c (.bool true))]⟩,
   ⟨(some 17), none, .extract (.t 16) 0⟩,
   ⟨(some 18), none, .extract (.t 16) 1⟩,
   ⟨(some 19), none, .extract (.t 16) 2⟩,
   ⟨(some 4), none, .move (.t 17)⟩,
   ⟨(some 5), none, .move (.t 18)⟩,
   ⟨(some 6), none, .move (.t 19)⟩] (some [4, 5, 6]))
 .ret))), [.tmp 4, .tmp 5, .tmp 6]⟩

/-- (*cloisonne/room.Room).from -/
def x32 : XDecl := .code ⟨5, 
 (.seq (.ops [⟨(some 10), none, .move (.c (.string .empty))⟩,
   ⟨(some 11), none, .alloc [(.bool false), (.string .empty), (.int .u64 0)]⟩,
   ⟨(some 12), none, .move (.c (.bool false))⟩] (some [0, 1, 2, 3, 4, 11]))
 (.seq (.block 0
  (.loop
   (.seq (.seq (.ops [⟨(some 15), none, .move (.t 3)⟩] (some [0, 1, 2, 4, 11, 15]))
   (.cond (.t 15)
    .skip
    (.exit 0)))
   (.block 1
    (.seq (.seq (.ops [⟨(some 17), none, .move (.t 0)⟩,
      ⟨(some 18), none, .nilCheck (.t 17)⟩,
      ⟨(some 19), none, .fieldAddr 6 (.t 18)⟩,
      ⟨(some 20), none, .load false 1 (.t 19)⟩,
      ⟨(some 21), none, .move (.t 2)⟩,
      ⟨(some 22), none, .indexAddr 1 (.t 20) (.t 21)⟩,
      ⟨(some 23), none, .load false 1 (.t 22)⟩,
      ⟨(some 24), none, .move (.t 4)⟩,
      ⟨(some 25), none, .call (.c (.func (.func 29) #[] #[])) [(.t 23), (.t 24)]⟩,
      ⟨(some 16), none, .move (.t 25)⟩,
      ⟨(some 26), none, .extract (.t 16) 0⟩,
      ⟨(some 27), none, .extract (.t 16) 1⟩,
      ⟨(some 13), none, .alloc [(.int .i64 0), (.bool false), (.bool false), (.string .empty), (.int .u64 0)]⟩,
      ⟨none, none, .store 5 (.t 13) (.t 26)⟩,
      ⟨(some 14), none, .move (.t 27)⟩] (some [0, 1, 4, 11, 13, 14]))
    (.seq (.ops [⟨(some 28), none, .move (.t 14)⟩] (some [0, 1, 4, 11, 13, 28]))
    (.cond (.t 28)
     (.seq (.opsd [(0, 0, ⟨(some 29), none, .move (.t 1)⟩),
       (1, 0, ⟨(some 30), none, .fieldAddr 2 (.t 13)⟩),
       (2, 2, ⟨(some 31), none, .load true 3 (.t 30)⟩),
       (3, 1, ⟨(some 10), none, .move (.t 29)⟩),
       (4, 15, ⟨none, none, .store 3 (.t 11) (.t 31)⟩),
       (5, 31, ⟨(some 12), none, .move (.c (.bool true))⟩)] (some [10, 11, 12]))
     .ret)
     .skip)))
    (.ops [⟨(some 33), none, .move (.t 0)⟩,
      ⟨(some 34), none, .nilCheck (.t 33)⟩,
      ⟨(some 35), none, .fieldAddr 5 (.t 34)⟩,
      ⟨(some 36), none, .load false 1 (.t 35)⟩,
      ⟨(some 37), none, .move (.t 1)⟩,
      ⟨(some 38), none, .call (.c (.func (.func 31) #[] #[])) [(.t 36), (.t 37)]⟩,
      ⟨(some 32), none, .move (.t 38)⟩,
      ⟨(some 39), none, .extract (.t 32) 0⟩,
      ⟨(some 40), none, .extract (.t 32) 1⟩,
      ⟨(some 41), none, .extract (.t 32) 2⟩,
      ⟨(some 1), none, .move (.t 39)⟩,
      ⟨(some 2), none, .move (.t 40)⟩,
      ⟨(some 3), none, .move (.t 41)⟩] (some [0, 1, 2, 3, 4, 11])))))))
 (.seq (.ops [⟨(some 42), none, .build [(.bool false), (.string .empty), (.int .u64 0)] [(0, 1), (1, 1), (2, 1)] []⟩,
   ⟨(some 10), none, .move (.c (.string .empty))⟩,
   ⟨none, none, .store 3 (.t 11) (.t 42)⟩,
   ⟨(some 12), none, .move (.c (.bool false))⟩] (some [10, 11, 12]))
 .ret))), [.tmp 10, .cell true 3 11, .tmp 12]⟩

/-- (*cloisonne/tree.Tree).Seek -/
def x33 : XDecl := .code ⟨2, 
 (.seq (.ops [⟨(some 4), none, .move (.c (.string .empty))⟩,
   ⟨(some 5), none, .move (.c (.int .i64 0))⟩,
   ⟨(some 6), none, .move (.c (.bool false))⟩] (some [0, 1]))
 (.seq (.seq (.ops [⟨(some 7), none, .move (.t 0)⟩,
   ⟨(some 8), none, .call (.c (.func (.func 56) #[] #[])) [(.t 7)]⟩,
   ⟨(some 9), none, .un .not (.t 8)⟩] (some [0, 1, 9]))
 (.cond (.t 9)
  (.seq (.ops [⟨(some 4), none, .move (.c (.string .empty))⟩,
    ⟨(some 5), none, .move (.c (.int .i64 0))⟩,
    ⟨(some 6), none, .move (.c (.bool false))⟩] (some [4, 5, 6]))
  .ret)
  .skip))
 (.seq (.ops [⟨(some 10), none, .move (.t 0)⟩,
   ⟨(some 11), none, .move (.t 0)⟩,
   ⟨(some 12), none, .nilCheck (.t 11)⟩,
   ⟨(some 13), none, .fieldAddr 2 (.t 12)⟩,
   ⟨(some 14), none, .load false 1 (.t 13)⟩,
   ⟨(some 15), none, .move (.t 1)⟩,
   ⟨(some 16), none, .call (.c (.func (.func 57) #[] #[])) [(.t 10), (.t 14), (.t 15), (.c (.bool false))]⟩,
   ⟨(some 17), none, .extract (.t 16) 0⟩,
   ⟨(some 18), none, .extract (.t 16) 1⟩,
   ⟨(some 19), none, .extract (.t 16) 2⟩,
   ⟨(some 4), none, .move (.t 17)⟩,
   ⟨(some 5), none, .move (.t 18)⟩,
   ⟨(some 6), none, .move (.t 19)⟩] (some [4, 5, 6]))
 .ret))), [.tmp 4, .tmp 5, .tmp 6]⟩

/-- cloisonne/room.May -/
def x34 : XDecl := .code ⟨1, 
 (.seq (.ops [⟨(some 2), none, .move (.c (.bool false))⟩] (some [0]))
 (.seq (.seq (.ops [⟨(some 5), none, .move (.t 0)⟩,
   ⟨(some 6), none, .len (.t 5)⟩,
   ⟨(some 7), none, .move (.c (.int .i64 0))⟩] (some [0, 5, 6, 7]))
 (.block 0
  (.loop
   (.seq (.ops [⟨(some 8), none, .bin .lss 3 (.t 7) (.t 6)⟩] (some [0, 5, 6, 7, 8]))
   (.seq (.cond (.t 8)
    .skip
    (.exit 0))
   (.seq (.block 1
    (.seq (.ops [⟨(some 9), none, .move (.t 7)⟩,
      ⟨(some 10), none, .indexAddr 5 (.t 5) (.t 7)⟩,
      ⟨(some 11), none, .load true 5 (.t 10)⟩,
      ⟨(some 4), none, .alloc [(.string .empty), (.bool false), (.bool false), (.string .empty), (.int .u64 0)]⟩,
      ⟨(some 3), none, .move (.t 9)⟩,
      ⟨none, none, .store 5 (.t 4) (.t 11)⟩] (some [0, 3, 4, 5, 6, 7]))
    (.seq (.opsd [(0, 0, ⟨(some 12), none, .fieldAddr 0 (.t 4)⟩),
      (1, 1, ⟨(some 13), none, .load false 1 (.t 12)⟩),
      (2, 3, ⟨(some 14), none, .call (.c (.func (.func 58) #[] #[])) [(.t 13)]⟩),
      (3, 7, ⟨(some 15), none, .un .not (.t 14)⟩),
      (4, 15, ⟨(some 16), none, .move (.t 15)⟩),
      (5, 31, ⟨(some 17), (some (16, false)), .fieldAddr 2 (.t 4)⟩),
      (6, 63, ⟨(some 18), (some (16, false)), .load true 3 (.t 17)⟩),
      (7, 127, ⟨(some 19), (some (16, false)), .call (.c (.func (.func 59) #[] #[])) [(.t 18)]⟩),
      (8, 255, ⟨(some 20), (some (16, false)), .un .not (.t 19)⟩),
      (9, 511, ⟨(some 21), none, .pick (.t 16) (.c (.bool true)) (.t 20)⟩),
      (10, 1023, ⟨(some 22), none, .move (.t 21)⟩),
      (11, 2047, ⟨(some 23), (some (22, false)), .fieldAddr 1 (.t 4)⟩),
      (12, 4095, ⟨(some 24), (some (22, false)), .load false 1 (.t 23)⟩),
      (13, 8191, ⟨(some 25), (some (22, false)), .move (.t 24)⟩),
      (14, 16383, ⟨(some 26), (some (25, true)), .fieldAddr 2 (.t 4)⟩),
      (15, 32767, ⟨(some 27), (some (25, true)), .load true 3 (.t 26)⟩),
      (16, 16383, ⟨(some 28), (some (25, true)), .build [(.bool false), (.string .empty), (.int .u64 0)] [(0, 1), (1, 1), (2, 1)] []⟩),
      (17, 131071, ⟨(some 29), (some (25, true)), .bin .neq 32 (.t 27) (.t 28)⟩),
      (18, 262143, ⟨(some 30), (some (22, false)), .pick (.t 25) (.t 29) (.c (.bool false))⟩),
      (19, 524287, ⟨(some 31), none, .pick (.t 22) (.c (.bool true)) (.t 30)⟩),
      (20, 1048575, ⟨(some 32), none, .move (.t 31)⟩),
      (21, 2097151, ⟨(some 33), (some (32, false)), .move (.t 3)⟩),
      (22, 4194303, ⟨(some 34), (some (32, false)), .bin .gtr 3 (.t 33) (.c (.int .i64 0))⟩),
      (23, 8388607, ⟨(some 35), (some (32, false)), .move (.t 34)⟩),
      (24, 16777215, ⟨(some 36), (some (35, true)), .move (.t 0)⟩),
      (25, 16777215, ⟨(some 37), (some (35, true)), .move (.t 3)⟩),
      (26, 50331647, ⟨(some 38), (some (35, true)), .bin .sub 3 (.t 37) (.c (.int .i64 1))⟩),
      (27, 134217727, ⟨(some 39), (some (35, true)), .indexAddr 5 (.t 36) (.t 38)⟩),
      (28, 268435455, ⟨(some 40), (some (35, true)), .fieldAddr 0 (.t 39)⟩),
      (29, 536870911, ⟨(some 41), (some (35, true)), .load false 1 (.t 40)⟩),
      (30, 16777215, ⟨(some 42), (some (35, true)), .fieldAddr 0 (.t 4)⟩),
      (31, 1090519039, ⟨(some 43), (some (35, true)), .load false 1 (.t 42)⟩),
      (32, 4294967295, ⟨(some 44), (some (35, true)), .bin .geq 9 (.t 41) (.t 43)⟩),
      (33, 8589934591, ⟨(some 45), (some (32, false)), .pick (.t 35) (.t 44) (.c (.bool false))⟩),
      (34, 17179869183, ⟨(some 46), none, .pick (.t 32) (.c (.bool true)) (.t 45)⟩)] (some [0, 5, 6, 7, 46]))
    (.cond (.t 46)
     (.seq (.ops [⟨(some 2), none, .move (.c (.bool false))⟩] (some [2]))
     .ret)
     .skip))))
   (.ops [⟨(some 47), none, .bin .add 3 (.t 7) (.c (.int .i64 1))⟩,
     ⟨(some 7), none, .move (.t 47)⟩] (some [0, 5, 6, 7]))))))))
 (.seq (.ops [⟨(some 48), none, .move (.t 0)⟩,
   ⟨(some 49), none, .len (.t 48)⟩,
   ⟨(some 50), none, .call (.c (.func (.func 39) #[] #[])) [(.t 49), (.c (.int .i64 1)), (.c (.int .i64 16))]⟩,
   ⟨(some 2), none, .move (.t 50)⟩] (some [2]))
 .ret))), [.tmp 2]⟩

/-- (*cloisonne/room.Room).room -/
def x35 : XDecl := .code ⟨2, 
 (.seq (.ops [⟨(some 4), none, .move (.c (.int .i64 0))⟩] (some [0, 1]))
 (.seq (.seq (.opsd [(0, 0, ⟨(some 8), none, .move (.t 0)⟩),
   (2, 0, ⟨(some 10), none, .move (.t 0)⟩),
   (3, 4, ⟨(some 11), none, .nilCheck (.t 10)⟩),
   (4, 12, ⟨(some 12), none, .fieldAddr 0 (.t 11)⟩),
   (5, 28, ⟨(some 13), none, .fieldAddr 3 (.t 12)⟩),
   (6, 60, ⟨(some 14), none, .load false 1 (.t 13)⟩),
   (1, 1, ⟨(some 9), none, .call (.c (.func (.func 18) #[] #[])) [(.t 8)]⟩),
   (7, 127, ⟨(some 15), none, .bin .geq 3 (.t 9) (.t 14)⟩)] (some [0, 1, 15]))
 (.cond (.t 15)
  (.seq (.ops [⟨(some 4), none, .move (.c (.int .i64 17))⟩] (some [4]))
  .ret)
  .skip))
 (.seq (.ops [⟨(some 16), none, .move (.t 0)⟩,
   ⟨(some 17), none, .nilCheck (.t 16)⟩,
   ⟨(some 18), none, .fieldAddr 8 (.t 17)⟩,
   ⟨(some 19), none, .load false 1 (.t 18)⟩,
   ⟨(some 5), none, .move (.t 19)⟩] (some [0, 1, 5]))
 (.seq (.seq (.ops [⟨(some 20), none, .move (.t 1)⟩,
   ⟨(some 21), none, .len (.t 20)⟩,
   ⟨(some 22), none, .move (.c (.int .i64 0))⟩] (some [0, 5, 20, 21, 22]))
 (.block 0
  (.loop
   (.seq (.ops [⟨(some 23), none, .bin .lss 3 (.t 22) (.t 21)⟩] (some [0, 5, 20, 21, 22, 23]))
   (.seq (.cond (.t 23)
    .skip
    (.exit 0))
   (.seq (.block 1
    (.seq (.ops [⟨(some 24), none, .indexAddr 5 (.t 20) (.t 22)⟩,
      ⟨(some 25), none, .load true 5 (.t 24)⟩,
      ⟨(some 7), none, .alloc [(.string .empty), (.bool false), (.bool false), (.string .empty), (.int .u64 0)]⟩,
      ⟨none, none, .store 5 (.t 7) (.t 25)⟩] (some [0, 5, 7, 20, 21, 22]))
    (.seq (.opsd [(0, 0, ⟨(some 26), none, .move (.t 5)⟩),
      (1, 0, ⟨(some 27), none, .fieldAddr 0 (.t 7)⟩),
      (2, 2, ⟨(some 28), none, .load false 1 (.t 27)⟩),
      (3, 0, ⟨(some 29), none, .move (.t 0)⟩),
      (4, 0, ⟨(some 30), none, .fieldAddr 0 (.t 7)⟩),
      (5, 16, ⟨(some 31), none, .load false 1 (.t 30)⟩),
      (6, 56, ⟨(some 32), none, .call (.c (.func (.func 30) #[] #[])) [(.t 29), (.t 31)]⟩),
      (7, 126, ⟨(some 33), none, .call (.c (.func (.func 60) #[] #[])) [(.t 28), (.t 32)]⟩),
      (8, 255, ⟨(some 34), none, .bin .sub 3 (.t 26) (.t 33)⟩),
      (9, 511, ⟨(some 5), none, .move (.t 34)⟩)] (some [0, 5, 7, 20, 21, 22]))
    (.seq (.ops [⟨(some 35), none, .fieldAddr 1 (.t 7)⟩,
      ⟨(some 36), none, .load false 1 (.t 35)⟩,
      ⟨(some 37), none, .un .not (.t 36)⟩] (some [0, 5, 7, 20, 21, 22, 37]))
    (.cond (.t 37)
     (.opsd [(0, 0, ⟨(some 38), none, .move (.t 5)⟩),
       (1, 0, ⟨(some 39), none, .fieldAddr 0 (.t 7)⟩),
       (2, 2, ⟨(some 40), none, .load false 1 (.t 39)⟩),
       (3, 6, ⟨(some 41), none, .calcB .len [9] 3 [(.t 40)]⟩),
       (4, 0, ⟨(some 42), none, .fieldAddr 2 (.t 7)⟩),
       (5, 16, ⟨(some 43), none, .load true 3 (.t 42)⟩),
       (6, 48, ⟨(some 44), none, .call (.c (.func (.func 61) #[] #[])) [(.t 43)]⟩),
       (7, 126, ⟨(some 45), none, .bin .add 3 (.t 41) (.t 44)⟩),
       (8, 255, ⟨(some 46), none, .bin .add 3 (.t 38) (.t 45)⟩),
       (9, 511, ⟨(some 5), none, .move (.t 46)⟩)] (some [0, 5, 20, 21, 22]))
     .skip)))))
   (.ops [⟨(some 47), none, .bin .add 3 (.t 22) (.c (.int .i64 1))⟩,
     ⟨(some 22), none, .move (.t 47)⟩] (some [0, 5, 20, 21, 22]))))))))
 (.seq (.seq (.ops [⟨(some 48), none, .move (.t 5)⟩,
   ⟨(some 49), none, .move (.t 0)⟩,
   ⟨(some 50), none, .nilCheck (.t 49)⟩,
   ⟨(some 51), none, .fieldAddr 0 (.t 50)⟩,
   ⟨(some 52), none, .fieldAddr 2 (.t 51)⟩,
   ⟨(some 53), none, .load false 1 (.t 52)⟩,
   ⟨(some 54), none, .bin .gtr 3 (.t 48) (.t 53)⟩] (some [54]))
 (.cond (.t 54)
  (.seq (.ops [⟨(some 4), none, .move (.c (.int .i64 15))⟩] (some [4]))
  .ret)
  .skip))
 (.seq (.ops [⟨(some 4), none, .move (.c (.int .i64 0))⟩] (some [4]))
 .ret)))))), [.tmp 4]⟩

/-- (*cloisonne/ring.Ring).Push -/
def x36 : XDecl := .code ⟨2, 
 (.seq (.ops [⟨(some 4), none, .move (.c (.int .i64 0))⟩,
   ⟨(some 5), none, .move (.c (.int .i64 0))⟩] (some [0, 1]))
 (.seq (.block 0
  (.seq (.ops [⟨(some 8), none, .move (.t 0)⟩,
    ⟨(some 9), none, .isNil .ptr false (.t 8)⟩,
    ⟨(some 7), none, .move (.t 9)⟩] (some [0, 1, 7]))
  (.cond (.t 7)
   (.seq (.ops [⟨(some 4), none, .move (.c (.int .i64 0))⟩,
     ⟨(some 5), none, .move (.c (.int .i64 2))⟩] (some [4, 5]))
   .ret)
   (.seq (.ops [⟨(some 11), none, .move (.t 1)⟩,
     ⟨(some 12), none, .move (.t 0)⟩,
     ⟨(some 13), none, .call (.c (.func (.func 62) #[] #[])) [(.t 12)]⟩,
     ⟨(some 14), none, .bin .leq 25 (.t 11) (.t 13)⟩,
     ⟨(some 10), none, .move (.t 14)⟩] (some [0, 1, 10]))
   (.cond (.t 10)
    (.seq (.ops [⟨(some 4), none, .move (.c (.int .i64 0))⟩,
      ⟨(some 5), none, .move (.c (.int .i64 1))⟩] (some [4, 5]))
    .ret)
    (.seq (.ops [⟨(some 16), none, .move (.t 0)⟩,
      ⟨(some 17), none, .nilCheck (.t 16)⟩,
      ⟨(some 18), none, .fieldAddr 2 (.t 17)⟩,
      ⟨(some 19), none, .load false 1 (.t 18)⟩,
      ⟨(some 20), none, .bin .geq 3 (.t 19) (.c (.int .i64 1073741824))⟩,
      ⟨(some 15), none, .move (.t 20)⟩] (some [0, 1, 15]))
    (.cond (.t 15)
     (.seq (.ops [⟨(some 4), none, .move (.c (.int .i64 0))⟩,
       ⟨(some 5), none, .move (.c (.int .i64 17))⟩] (some [4, 5]))
     .ret)
     .skip)))))))
 (.seq (.ops [⟨(some 21), none, .move (.t 0)⟩,
   ⟨(some 22), none, .nilCheck (.t 21)⟩,
   ⟨(some 23), none, .fieldAddr 2 (.t 22)⟩,
   ⟨(some 24), none, .load false 1 (.t 23)⟩,
   ⟨(some 25), none, .bin .add 3 (.t 24) (.c (.int .i64 1))⟩,
   ⟨(some 26), none, .nilCheck (.t 21)⟩,
   ⟨(some 27), none, .fieldAddr 2 (.t 26)⟩,
   ⟨none, none, .store 1 (.t 27) (.t 25)⟩] (some [0, 1]))
 (.seq (.ops [⟨(some 28), none, .move (.t 0)⟩,
   ⟨(some 29), none, .move (.t 0)⟩,
   ⟨(some 30), none, .nilCheck (.t 29)⟩,
   ⟨(some 31), none, .fieldAddr 3 (.t 30)⟩,
   ⟨(some 32), none, .load false 1 (.t 31)⟩,
   ⟨(some 33), none, .move (.t 1)⟩,
   ⟨(some 34), none, .buildSlice [(.int .u64 0)] 1 1 [(0, (.t 33))]⟩,
   ⟨(some 35), none, .append 1 8 [(.int .u64 0)] (.t 32) (.t 34)⟩,
   ⟨(some 36), none, .nilCheck (.t 28)⟩,
   ⟨(some 37), none, .fieldAddr 3 (.t 36)⟩,
   ⟨none, none, .store 1 (.t 37) (.t 35)⟩] (some [0]))
 (.seq (.seq (.opsr [⟨(some 38), none, .move (.t 0)⟩,
   ⟨(some 39), none, .nilCheck (.t 38)⟩,
   ⟨(some 40), none, .fieldAddr 3 (.t 39)⟩,
   ⟨(some 41), none, .load false 1 (.t 40)⟩,
   ⟨(some 42), none, .len (.t 41)⟩,
   ⟨(some 43), none, .move (.t 0)⟩,
   ⟨(some 44), none, .nilCheck (.t 43)⟩,
   ⟨(some 45), none, .fieldAddr 0 (.t 44)⟩,
   ⟨(some 46), none, .load false 1 (.t 45)⟩,
   ⟨(some 47), none, .bin .sub 3 (.t 42) (.t 46)⟩,
   ⟨(some 6), none, .move (.t 47)⟩] (some [0, 6]))
 (.seq (.ops [⟨(some 48), none, .move (.t 6)⟩,
   ⟨(some 49), none, .bin .gtr 3 (.t 48) (.c (.int .i64 0))⟩] (some [0, 6, 49]))
 (.cond (.t 49)
  (.ops [⟨(some 50), none, .move (.t 0)⟩,
    ⟨(some 51), none, .move (.t 0)⟩,
    ⟨(some 52), none, .nilCheck (.t 51)⟩,
    ⟨(some 53), none, .fieldAddr 3 (.t 52)⟩,
    ⟨(some 54), none, .load false 1 (.t 53)⟩,
    ⟨(some 55), none, .move (.t 6)⟩,
    ⟨(some 56), none, .call (.c (.func (.func 63) #[] #[])) [(.t 54), (.c (.int .i64 0)), (.t 55)]⟩,
    ⟨(some 57), none, .nilCheck (.t 50)⟩,
    ⟨(some 58), none, .fieldAddr 3 (.t 57)⟩,
    ⟨none, none, .store 1 (.t 58) (.t 56)⟩] (some [0]))
  .skip)))
 (.seq (.ops [⟨(some 59), none, .move (.t 0)⟩,
   ⟨(some 60), none, .nilCheck (.t 59)⟩,
   ⟨(some 61), none, .fieldAddr 2 (.t 60)⟩,
   ⟨(some 62), none, .load false 1 (.t 61)⟩,
   ⟨(some 4), none, .move (.t 62)⟩,
   ⟨(some 5), none, .move (.c (.int .i64 0))⟩] (some [4, 5]))
 .ret)))))), [.tmp 4, .tmp 5]⟩

/-- (*cloisonne/room.Room).put -/
def x37 : XDecl := .code ⟨3, 
 (.seq (.ops [⟨(some 5), none, .box (.t 2)⟩,
   ⟨(some 6), none, .move (.c (.int .i64 0))⟩] (some [0, 1, 5]))
 (.seq (.opsd [(0, 0, ⟨(some 10), none, .move (.t 0)⟩),
   (1, 0, ⟨(some 11), none, .move (.t 1)⟩),
   (3, 0, ⟨(some 13), none, .load true 5 (.t 5)⟩),
   (2, 3, ⟨(some 12), none, .call (.c (.func (.func 30) #[] #[])) [(.t 10), (.t 11)]⟩),
   (4, 15, ⟨(some 14), none, .call (.c (.func (.func 64) #[] #[])) [(.t 12), (.t 13)]⟩),
   (5, 31, ⟨(some 9), none, .move (.t 14)⟩),
   (6, 63, ⟨(some 15), none, .extract (.t 9) 0⟩),
   (7, 63, ⟨(some 16), none, .extract (.t 9) 1⟩),
   (8, 127, ⟨(some 7), none, .move (.t 15)⟩),
   (9, 511, ⟨(some 8), none, .move (.t 16)⟩)] (some [0, 1, 7, 8]))
 (.seq (.seq (.ops [⟨(some 17), none, .move (.t 8)⟩,
   ⟨(some 18), none, .bin .neq 28 (.t 17) (.c (.int .i64 0))⟩] (some [0, 1, 7, 8, 18]))
 (.cond (.t 18)
  (.seq (.ops [⟨(some 19), none, .move (.t 8)⟩,
    ⟨(some 6), none, .move (.t 19)⟩] (some [6]))
  .ret)
  .skip))
 (.seq (.ops [⟨(some 20), none, .move (.t 0)⟩,
   ⟨(some 21), none, .move (.t 1)⟩,
   ⟨(some 22), none, .move (.t 7)⟩,
   ⟨(some 23), none, .call (.c (.func (.func 43) #[] #[])) [(.t 20), (.t 21), (.t 22)]⟩] (some []))
 (.seq (.ops [⟨(some 6), none, .move (.c (.int .i64 0))⟩] (some [6]))
 .ret))))), [.tmp 6]⟩

/-- slices.Clone[[]uint64,uint64] -/
def x38 : XDecl := .code ⟨1, 
 (.seq (.ops [⟨(some 2), none, .move (.c (.slice none 0 0))⟩] (some [0]))
 (.seq (.seq (.ops [⟨(some 3), none, .move (.t 0)⟩,
   ⟨(some 4), none, .isNil .slice false (.t 3)⟩] (some [0, 4]))
 (.cond (.t 4)
  (.seq (.ops [⟨(some 2), none, .move (.c (.slice none 0 0))⟩] (some [2]))
  .ret)
  .skip))
 (.seq (.ops [⟨(some 5), none, .buildSlice [(.int .u64 0)] 1 0 []⟩,
   ⟨(some 6), none, .move (.t 0)⟩,
   ⟨(some 7), none, .append 1 8 [(.int .u64 0)] (.t 5) (.t 6)⟩,
   ⟨(some 2), none, .move (.t 7)⟩] (some [2]))
 .ret))), [.tmp 2]⟩

/-- cloisonne/room.within -/
def x39 : XDecl := .code ⟨3, 
 (.seq (.ops [⟨(some 6), none, .move (.c (.bool false))⟩] (some [0, 1, 2]))
 (.seq (.ops [⟨(some 7), none, .move (.t 0)⟩,
   ⟨(some 8), none, .move (.t 1)⟩,
   ⟨(some 9), none, .bin .geq 3 (.t 7) (.t 8)⟩,
   ⟨(some 10), none, .move (.t 9)⟩,
   ⟨(some 11), (some (10, true)), .move (.t 0)⟩,
   ⟨(some 12), (some (10, true)), .move (.t 2)⟩,
   ⟨(some 13), (some (10, true)), .bin .leq 3 (.t 11) (.t 12)⟩,
   ⟨(some 14), none, .pick (.t 10) (.t 13) (.c (.bool false))⟩,
   ⟨(some 6), none, .move (.t 14)⟩] (some [6]))
 .ret)), [.tmp 6]⟩

/-- cloisonne/chain.Last -/
def x40 : XDecl := .code ⟨1, 
 (.seq (.ops [⟨(some 2), none, .alloc [(.int .i64 0), (.bool false), (.bool false), (.string .empty), (.int .u64 0)]⟩,
   ⟨(some 3), none, .move (.c (.bool false))⟩] (some [0, 2]))
 (.seq (.seq (.ops [⟨(some 4), none, .move (.t 0)⟩,
   ⟨(some 5), none, .call (.c (.func (.func 53) #[] #[])) [(.t 4)]⟩,
   ⟨(some 6), none, .un .not (.t 5)⟩,
   ⟨(some 7), none, .move (.t 6)⟩,
   ⟨(some 8), (some (7, false)), .move (.t 0)⟩,
   ⟨(some 9), (some (7, false)), .len (.t 8)⟩,
   ⟨(some 10), (some (7, false)), .bin .eql 3 (.t 9) (.c (.int .i64 0))⟩,
   ⟨(some 11), none, .pick (.t 7) (.c (.bool true)) (.t 10)⟩] (some [0, 2, 11]))
 (.cond (.t 11)
  (.seq (.ops [⟨(some 12), none, .build [(.int .i64 0), (.bool false), (.bool false), (.string .empty), (.int .u64 0)] [(0, 1), (1, 1), (2, 3)] []⟩,
    ⟨none, none, .store 5 (.t 2) (.t 12)⟩,
    ⟨(some 3), none, .move (.c (.bool false))⟩] (some [2, 3]))
  .ret)
  .skip))
 (.seq (.ops [⟨(some 13), none, .move (.t 0)⟩,
   ⟨(some 14), none, .move (.t 0)⟩,
   ⟨(some 15), none, .len (.t 14)⟩,
   ⟨(some 16), none, .bin .sub 3 (.t 15) (.c (.int .i64 1))⟩,
   ⟨(some 17), none, .indexAddr 5 (.t 13) (.t 16)⟩,
   ⟨(some 18), none, .load true 5 (.t 17)⟩,
   ⟨none, none, .store 5 (.t 2) (.t 18)⟩,
   ⟨(some 3), none, .move (.c (.bool true))⟩] (some [2, 3]))
 .ret))), [.cell true 5 2, .tmp 3]⟩

/-- (*cloisonne/room.Room).all -/
def x41 : XDecl := .code ⟨1, 
 (.seq (.ops [⟨(some 2), none, .move (.c (.slice none 0 0))⟩] (some [0]))
 (.seq (.seq (.ops [⟨(some 3), none, .move (.t 0)⟩,
   ⟨(some 4), none, .isNil .ptr false (.t 3)⟩] (some [0, 4]))
 (.cond (.t 4)
  (.seq (.ops [⟨(some 2), none, .move (.c (.slice none 0 0))⟩] (some [2]))
  .ret)
  .skip))
 (.seq (.opsd [(0, 0, ⟨(some 5), none, .move (.t 0)⟩),
   (1, 1, ⟨(some 6), none, .nilCheck (.t 5)⟩),
   (2, 3, ⟨(some 7), none, .fieldAddr 5 (.t 6)⟩),
   (3, 7, ⟨(some 8), none, .load false 1 (.t 7)⟩),
   (4, 0, ⟨(some 9), none, .move (.t 0)⟩),
   (5, 16, ⟨(some 10), none, .nilCheck (.t 9)⟩),
   (6, 48, ⟨(some 11), none, .fieldAddr 5 (.t 10)⟩),
   (7, 112, ⟨(some 12), none, .load false 1 (.t 11)⟩),
   (8, 240, ⟨(some 13), none, .call (.c (.func (.func 66) #[] #[])) [(.t 12)]⟩),
   (9, 511, ⟨(some 14), none, .call (.c (.func (.func 65) #[] #[])) [(.t 8), (.c (.string .empty)), (.t 13)]⟩),
   (10, 1023, ⟨(some 2), none, .move (.t 14)⟩)] (some [2]))
 .ret))), [.tmp 2]⟩

/-- cloisonne/chain.Old -/
def x42 : XDecl := .code ⟨2, 
 (.seq (.ops [⟨(some 4), none, .move (.c (.int .i64 0))⟩] (some [0, 1]))
 (.seq (.seq (.ops [⟨(some 6), none, .move (.t 0)⟩,
   ⟨(some 7), none, .call (.c (.func (.func 53) #[] #[])) [(.t 6)]⟩,
   ⟨(some 8), none, .un .not (.t 7)⟩,
   ⟨(some 9), none, .move (.t 8)⟩,
   ⟨(some 10), (some (9, false)), .move (.t 1)⟩,
   ⟨(some 11), (some (9, false)), .bin .lss 3 (.t 10) (.c (.int .i64 1))⟩,
   ⟨(some 12), none, .pick (.t 9) (.c (.bool true)) (.t 11)⟩] (some [0, 1, 12]))
 (.cond (.t 12)
  (.seq (.ops [⟨(some 4), none, .move (.c (.int .i64 0))⟩] (some [4]))
  .ret)
  .skip))
 (.seq (.ops [⟨(some 13), none, .move (.t 0)⟩,
   ⟨(some 14), none, .move (.t 1)⟩,
   ⟨(some 15), none, .call (.c (.func (.func 54) #[] #[])) [(.t 13), (.t 14)]⟩,
   ⟨(some 5), none, .move (.t 15)⟩] (some [0, 5]))
 (.seq (.seq (.ops [⟨(some 16), none, .move (.t 5)⟩,
   ⟨(some 17), none, .bin .gtr 3 (.t 16) (.c (.int .i64 0))⟩,
   ⟨(some 18), none, .move (.t 17)⟩,
   ⟨(some 19), (some (18, true)), .move (.t 0)⟩,
   ⟨(some 20), (some (18, true)), .move (.t 5)⟩,
   ⟨(some 21), (some (18, true)), .bin .sub 3 (.t 20) (.c (.int .i64 1))⟩,
   ⟨(some 22), (some (18, true)), .indexAddr 5 (.t 19) (.t 21)⟩,
   ⟨(some 23), (some (18, true)), .fieldAddr 1 (.t 22)⟩,
   ⟨(some 24), (some (18, true)), .load false 1 (.t 23)⟩,
   ⟨(some 25), (some (18, true)), .un .not (.t 24)⟩,
   ⟨(some 26), none, .pick (.t 18) (.t 25) (.c (.bool false))⟩] (some [5, 26]))
 (.cond (.t 26)
  (.ops [⟨(some 27), none, .move (.t 5)⟩,
    ⟨(some 28), none, .bin .sub 3 (.t 27) (.c (.int .i64 1))⟩,
    ⟨(some 5), none, .move (.t 28)⟩] (some [5]))
  .skip))
 (.seq (.ops [⟨(some 29), none, .move (.t 5)⟩,
   ⟨(some 4), none, .move (.t 29)⟩] (some [4]))
 .ret))))), [.tmp 4]⟩

/-- (*cloisonne/room.Room).lay -/
def x43 : XDecl := .code ⟨3, 
 (.seq (.ops [⟨(some 11), none, .move (.t 0)⟩,
   ⟨(some 12), none, .move (.t 1)⟩,
   ⟨(some 13), none, .call (.c (.func (.func 30) #[] #[])) [(.t 11), (.t 12)]⟩,
   ⟨(some 6), none, .move (.t 13)⟩] (some [0, 1, 2, 6]))
 (.seq (.ops [⟨(some 14), none, .move (.t 0)⟩,
   ⟨(some 15), none, .nilCheck (.t 14)⟩,
   ⟨(some 16), none, .fieldAddr 10 (.t 15)⟩,
   ⟨(some 17), none, .load false 1 (.t 16)⟩,
   ⟨(some 18), none, .move (.t 2)⟩,
   ⟨(some 19), none, .len (.t 18)⟩,
   ⟨(some 20), none, .move (.t 6)⟩,
   ⟨(some 21), none, .len (.t 20)⟩,
   ⟨(some 22), none, .bin .sub 3 (.t 19) (.t 21)⟩,
   ⟨(some 23), none, .bin .add 3 (.t 17) (.t 22)⟩,
   ⟨(some 24), none, .nilCheck (.t 14)⟩,
   ⟨(some 25), none, .fieldAddr 10 (.t 24)⟩,
   ⟨none, none, .store 1 (.t 25) (.t 23)⟩] (some [0, 1, 2, 6]))
 (.seq (.ops [⟨(some 26), none, .move (.t 1)⟩,
   ⟨(some 27), none, .move (.t 6)⟩,
   ⟨(some 28), none, .call (.c (.func (.func 60) #[] #[])) [(.t 26), (.t 27)]⟩,
   ⟨(some 29), none, .move (.t 1)⟩,
   ⟨(some 30), none, .move (.t 2)⟩,
   ⟨(some 31), none, .call (.c (.func (.func 60) #[] #[])) [(.t 29), (.t 30)]⟩,
   ⟨(some 7), none, .move (.t 28)⟩,
   ⟨(some 8), none, .move (.t 31)⟩] (some [0, 1, 2, 7, 8]))
 (.seq (.ops [⟨(some 32), none, .move (.t 0)⟩,
   ⟨(some 33), none, .nilCheck (.t 32)⟩,
   ⟨(some 34), none, .fieldAddr 8 (.t 33)⟩,
   ⟨(some 35), none, .load false 1 (.t 34)⟩,
   ⟨(some 36), none, .move (.t 8)⟩,
   ⟨(some 37), none, .move (.t 7)⟩,
   ⟨(some 38), none, .bin .sub 3 (.t 36) (.t 37)⟩,
   ⟨(some 39), none, .bin .add 3 (.t 35) (.t 38)⟩,
   ⟨(some 40), none, .nilCheck (.t 32)⟩,
   ⟨(some 41), none, .fieldAddr 8 (.t 40)⟩,
   ⟨none, none, .store 1 (.t 41) (.t 39)⟩] (some [0, 1, 2, 7, 8]))
 (.seq (.ops [⟨(some 42), none, .move (.t 0)⟩,
   ⟨(some 43), none, .nilCheck (.t 42)⟩,
   ⟨(some 44), none, .fieldAddr 9 (.t 43)⟩,
   ⟨(some 45), none, .load false 1 (.t 44)⟩,
   ⟨(some 46), none, .move (.t 8)⟩,
   ⟨(some 47), none, .calcB .min [3, 3] 3 [(.t 46), (.c (.int .i64 1))]⟩,
   ⟨(some 48), none, .move (.t 7)⟩,
   ⟨(some 49), none, .calcB .min [3, 3] 3 [(.t 48), (.c (.int .i64 1))]⟩,
   ⟨(some 50), none, .bin .sub 3 (.t 47) (.t 49)⟩,
   ⟨(some 51), none, .bin .add 3 (.t 45) (.t 50)⟩,
   ⟨(some 52), none, .nilCheck (.t 42)⟩,
   ⟨(some 53), none, .fieldAddr 9 (.t 52)⟩,
   ⟨none, none, .store 1 (.t 53) (.t 51)⟩] (some [0, 1, 2]))
 (.seq (.ops [⟨(some 55), none, .move (.t 0)⟩,
   ⟨(some 56), none, .nilCheck (.t 55)⟩,
   ⟨(some 57), none, .fieldAddr 5 (.t 56)⟩,
   ⟨(some 58), none, .load false 1 (.t 57)⟩,
   ⟨(some 59), none, .move (.t 1)⟩,
   ⟨(some 60), none, .call (.c (.func (.func 55) #[] #[])) [(.t 58), (.t 59)]⟩,
   ⟨(some 54), none, .move (.t 60)⟩,
   ⟨(some 61), none, .extract (.t 54) 0⟩,
   ⟨(some 62), none, .extract (.t 54) 1⟩,
   ⟨(some 9), none, .move (.t 61)⟩,
   ⟨(some 10), none, .move (.t 62)⟩] (some [0, 1, 2, 9, 10]))
 (.block 0
  (.seq (.ops [⟨(some 64), none, .move (.t 10)⟩,
    ⟨(some 65), none, .move (.t 64)⟩,
    ⟨(some 66), (some (65, true)), .move (.t 2)⟩,
    ⟨(some 67), (some (65, true)), .len (.t 66)⟩,
    ⟨(some 68), (some (65, true)), .bin .eql 3 (.t 67) (.c (.int .i64 0))⟩,
    ⟨(some 69), none, .pick (.t 65) (.t 68) (.c (.bool false))⟩,
    ⟨(some 63), none, .move (.t 69)⟩] (some [0, 1, 2, 9, 10, 63]))
  (.cond (.t 63)
   (.seq (.ops [⟨(some 70), none, .move (.t 0)⟩,
     ⟨(some 71), none, .nilCheck (.t 70)⟩,
     ⟨(some 72), none, .fieldAddr 5 (.t 71)⟩,
     ⟨(some 73), none, .load false 1 (.t 72)⟩,
     ⟨(some 74), none, .move (.t 1)⟩,
     ⟨(some 75), none, .call (.c (.func (.func 67) #[] #[])) [(.t 73), (.t 74)]⟩] (some [0, 9]))
   (.seq (.ops [⟨(some 76), none, .move (.t 0)⟩,
     ⟨(some 77), none, .nilCheck (.t 76)⟩,
     ⟨(some 78), none, .fieldAddr 6 (.t 77)⟩,
     ⟨(some 79), none, .load false 1 (.t 78)⟩,
     ⟨(some 80), none, .move (.t 9)⟩,
     ⟨(some 81), none, .indexAddr 1 (.t 79) (.t 80)⟩,
     ⟨none, none, .store 1 (.t 81) (.c (.slice none 0 0))⟩] (some [0, 9]))
   (.ops [⟨(some 82), none, .move (.t 0)⟩,
     ⟨(some 83), none, .move (.t 0)⟩,
     ⟨(some 84), none, .nilCheck (.t 83)⟩,
     ⟨(some 85), none, .fieldAddr 7 (.t 84)⟩,
     ⟨(some 86), none, .load false 1 (.t 85)⟩,
     ⟨(some 87), none, .move (.t 9)⟩,
     ⟨(some 88), none, .buildSlice [(.int .i64 0)] 1 1 [(0, (.t 87))]⟩,
     ⟨(some 89), none, .append 1 8 [(.int .i64 0)] (.t 86) (.t 88)⟩,
     ⟨(some 90), none, .nilCheck (.t 82)⟩,
     ⟨(some 91), none, .fieldAddr 7 (.t 90)⟩,
     ⟨none, none, .store 1 (.t 91) (.t 89)⟩] (some []))))
   (.seq (.ops [⟨(some 93), none, .move (.t 10)⟩,
     ⟨(some 92), none, .move (.t 93)⟩] (some [0, 1, 2, 9, 92]))
   (.cond (.t 92)
    (.ops [⟨(some 94), none, .move (.t 0)⟩,
      ⟨(some 95), none, .nilCheck (.t 94)⟩,
      ⟨(some 96), none, .fieldAddr 6 (.t 95)⟩,
      ⟨(some 97), none, .load false 1 (.t 96)⟩,
      ⟨(some 98), none, .move (.t 9)⟩,
      ⟨(some 99), none, .move (.t 2)⟩,
      ⟨(some 100), none, .indexAddr 1 (.t 97) (.t 98)⟩,
      ⟨none, none, .store 1 (.t 100) (.t 99)⟩] (some []))
    (.seq (.ops [⟨(some 102), none, .move (.t 2)⟩,
      ⟨(some 103), none, .len (.t 102)⟩,
      ⟨(some 104), none, .bin .gtr 3 (.t 103) (.c (.int .i64 0))⟩,
      ⟨(some 105), none, .move (.t 104)⟩,
      ⟨(some 106), (some (105, true)), .move (.t 0)⟩,
      ⟨(some 107), (some (105, true)), .nilCheck (.t 106)⟩,
      ⟨(some 108), (some (105, true)), .fieldAddr 7 (.t 107)⟩,
      ⟨(some 109), (some (105, true)), .load false 1 (.t 108)⟩,
      ⟨(some 110), (some (105, true)), .len (.t 109)⟩,
      ⟨(some 111), (some (105, true)), .bin .gtr 3 (.t 110) (.c (.int .i64 0))⟩,
      ⟨(some 112), none, .pick (.t 105) (.t 111) (.c (.bool false))⟩,
      ⟨(some 101), none, .move (.t 112)⟩] (some [0, 1, 2, 101]))
    (.cond (.t 101)
     (.seq (.opsr [⟨(some 113), none, .move (.t 0)⟩,
       ⟨(some 114), none, .nilCheck (.t 113)⟩,
       ⟨(some 115), none, .fieldAddr 7 (.t 114)⟩,
       ⟨(some 116), none, .load false 1 (.t 115)⟩,
       ⟨(some 117), none, .move (.t 0)⟩,
       ⟨(some 118), none, .nilCheck (.t 117)⟩,
       ⟨(some 119), none, .fieldAddr 7 (.t 118)⟩,
       ⟨(some 120), none, .load false 1 (.t 119)⟩,
       ⟨(some 121), none, .len (.t 120)⟩,
       ⟨(some 122), none, .bin .sub 3 (.t 121) (.c (.int .i64 1))⟩,
       ⟨(some 123), none, .indexAddr 1 (.t 116) (.t 122)⟩,
       ⟨(some 124), none, .load false 1 (.t 123)⟩,
       ⟨(some 9), none, .move (.t 124)⟩] (some [0, 1, 2, 9]))
     (.seq (.opsd [(0, 0, ⟨(some 125), none, .move (.t 0)⟩),
       (1, 0, ⟨(some 126), none, .move (.t 0)⟩),
       (2, 2, ⟨(some 127), none, .nilCheck (.t 126)⟩),
       (3, 6, ⟨(some 128), none, .fieldAddr 7 (.t 127)⟩),
       (4, 14, ⟨(some 129), none, .load false 1 (.t 128)⟩),
       (5, 0, ⟨(some 130), none, .move (.t 0)⟩),
       (6, 32, ⟨(some 131), none, .nilCheck (.t 130)⟩),
       (7, 96, ⟨(some 132), none, .fieldAddr 7 (.t 131)⟩),
       (8, 224, ⟨(some 133), none, .load false 1 (.t 132)⟩),
       (9, 480, ⟨(some 134), none, .len (.t 133)⟩),
       (10, 992, ⟨(some 135), none, .bin .sub 3 (.t 134) (.c (.int .i64 1))⟩),
       (11, 2046, ⟨(some 136), none, .slice 1 (.t 129) none (some (.t 135)) none⟩),
       (12, 4095, ⟨(some 137), none, .nilCheck (.t 125)⟩),
       (13, 8191, ⟨(some 138), none, .fieldAddr 7 (.t 137)⟩),
       (14, 16383, ⟨none, none, .store 1 (.t 138) (.t 136)⟩)] (some [0, 1, 2, 9]))
     (.seq (.ops [⟨(some 139), none, .move (.t 0)⟩,
       ⟨(some 140), none, .nilCheck (.t 139)⟩,
       ⟨(some 141), none, .fieldAddr 6 (.t 140)⟩,
       ⟨(some 142), none, .load false 1 (.t 141)⟩,
       ⟨(some 143), none, .move (.t 9)⟩,
       ⟨(some 144), none, .move (.t 2)⟩,
       ⟨(some 145), none, .indexAddr 1 (.t 142) (.t 143)⟩,
       ⟨none, none, .store 1 (.t 145) (.t 144)⟩] (some [0, 1, 9]))
     (.ops [⟨(some 146), none, .move (.t 0)⟩,
       ⟨(some 147), none, .nilCheck (.t 146)⟩,
       ⟨(some 148), none, .fieldAddr 5 (.t 147)⟩,
       ⟨(some 149), none, .load false 1 (.t 148)⟩,
       ⟨(some 150), none, .move (.t 1)⟩,
       ⟨(some 151), none, .move (.t 9)⟩,
       ⟨(some 152), none, .call (.c (.func (.func 68) #[] #[])) [(.t 149), (.t 150), (.t 151)]⟩] (some [])))))
     (.seq (.ops [⟨(some 154), none, .move (.t 2)⟩,
       ⟨(some 155), none, .len (.t 154)⟩,
       ⟨(some 156), none, .bin .gtr 3 (.t 155) (.c (.int .i64 0))⟩,
       ⟨(some 153), none, .move (.t 156)⟩] (some [0, 1, 2, 153]))
     (.cond (.t 153)
      (.seq (.opsd [(0, 0, ⟨(some 157), none, .move (.t 0)⟩),
        (1, 1, ⟨(some 158), none, .nilCheck (.t 157)⟩),
        (2, 3, ⟨(some 159), none, .fieldAddr 5 (.t 158)⟩),
        (3, 7, ⟨(some 160), none, .load false 1 (.t 159)⟩),
        (4, 0, ⟨(some 161), none, .move (.t 1)⟩),
        (5, 0, ⟨(some 162), none, .move (.t 0)⟩),
        (6, 32, ⟨(some 163), none, .nilCheck (.t 162)⟩),
        (7, 96, ⟨(some 164), none, .fieldAddr 6 (.t 163)⟩),
        (8, 224, ⟨(some 165), none, .load false 1 (.t 164)⟩),
        (9, 480, ⟨(some 166), none, .len (.t 165)⟩),
        (10, 1023, ⟨(some 167), none, .call (.c (.func (.func 68) #[] #[])) [(.t 160), (.t 161), (.t 166)]⟩)] (some [0, 2]))
      (.ops [⟨(some 168), none, .move (.t 0)⟩,
        ⟨(some 169), none, .move (.t 0)⟩,
        ⟨(some 170), none, .nilCheck (.t 169)⟩,
        ⟨(some 171), none, .fieldAddr 6 (.t 170)⟩,
        ⟨(some 172), none, .load false 1 (.t 171)⟩,
        ⟨(some 173), none, .move (.t 2)⟩,
        ⟨(some 174), none, .buildSlice [(.slice none 0 0)] 1 1 [(0, (.t 173))]⟩,
        ⟨(some 175), none, .append 1 24 [(.slice none 0 0)] (.t 172) (.t 174)⟩,
        ⟨(some 176), none, .nilCheck (.t 168)⟩,
        ⟨(some 177), none, .fieldAddr 6 (.t 176)⟩,
        ⟨none, none, .store 1 (.t 177) (.t 175)⟩] (some [])))
      .skip))))))))))))))), []⟩

/-- cloisonne/chain.Sweep -/
def x44 : XDecl := .code ⟨2, 
 (.seq (.ops [⟨(some 4), none, .move (.c (.slice none 0 0))⟩] (some [0, 1]))
 (.seq (.seq (.ops [⟨(some 5), none, .move (.t 0)⟩,
   ⟨(some 6), none, .call (.c (.func (.func 53) #[] #[])) [(.t 5)]⟩,
   ⟨(some 7), none, .un .not (.t 6)⟩] (some [0, 1, 7]))
 (.cond (.t 7)
  (.seq (.ops [⟨(some 4), none, .move (.c (.slice none 0 0))⟩] (some [4]))
  .ret)
  .skip))
 (.seq (.ops [⟨(some 8), none, .move (.t 0)⟩,
   ⟨(some 9), none, .move (.t 0)⟩,
   ⟨(some 10), none, .move (.t 1)⟩,
   ⟨(some 11), none, .call (.c (.func (.func 42) #[] #[])) [(.t 9), (.t 10)]⟩,
   ⟨(some 12), none, .slice 5 (.t 8) (some (.t 11)) none none⟩,
   ⟨(some 13), none, .call (.c (.func (.func 69) #[] #[])) [(.t 12)]⟩,
   ⟨(some 4), none, .move (.t 13)⟩] (some [4]))
 .ret))), [.tmp 4]⟩

/-- (*cloisonne/ring.Ring).Seq -/
def x45 : XDecl := .code ⟨1, 
 (.seq (.ops [⟨(some 2), none, .move (.c (.int .i64 0))⟩] (some [0]))
 (.seq (.seq (.ops [⟨(some 3), none, .move (.t 0)⟩,
   ⟨(some 4), none, .isNil .ptr false (.t 3)⟩] (some [0, 4]))
 (.cond (.t 4)
  (.seq (.ops [⟨(some 2), none, .move (.c (.int .i64 0))⟩] (some [2]))
  .ret)
  .skip))
 (.seq (.ops [⟨(some 5), none, .move (.t 0)⟩,
   ⟨(some 6), none, .nilCheck (.t 5)⟩,
   ⟨(some 7), none, .fieldAddr 2 (.t 6)⟩,
   ⟨(some 8), none, .load false 1 (.t 7)⟩,
   ⟨(some 2), none, .move (.t 8)⟩] (some [2]))
 .ret))), [.tmp 2]⟩

/-- (*cloisonne/ring.Ring).Floor -/
def x46 : XDecl := .code ⟨1, 
 (.seq (.ops [⟨(some 2), none, .move (.c (.int .i64 0))⟩] (some [0]))
 (.seq (.seq (.ops [⟨(some 3), none, .move (.t 0)⟩,
   ⟨(some 4), none, .isNil .ptr false (.t 3)⟩] (some [0, 4]))
 (.cond (.t 4)
  (.seq (.ops [⟨(some 2), none, .move (.c (.int .i64 0))⟩] (some [2]))
  .ret)
  .skip))
 (.seq (.opsr [⟨(some 5), none, .move (.t 0)⟩,
   ⟨(some 6), none, .nilCheck (.t 5)⟩,
   ⟨(some 7), none, .fieldAddr 2 (.t 6)⟩,
   ⟨(some 8), none, .load false 1 (.t 7)⟩,
   ⟨(some 9), none, .move (.t 0)⟩,
   ⟨(some 10), none, .nilCheck (.t 9)⟩,
   ⟨(some 11), none, .fieldAddr 0 (.t 10)⟩,
   ⟨(some 12), none, .load false 1 (.t 11)⟩,
   ⟨(some 13), none, .bin .sub 3 (.t 8) (.t 12)⟩,
   ⟨(some 14), none, .bin .add 3 (.t 13) (.c (.int .i64 1))⟩,
   ⟨(some 15), none, .move (.t 0)⟩,
   ⟨(some 16), none, .nilCheck (.t 15)⟩,
   ⟨(some 17), none, .fieldAddr 1 (.t 16)⟩,
   ⟨(some 18), none, .load false 1 (.t 17)⟩,
   ⟨(some 19), none, .calcB .max [3, 3] 3 [(.t 14), (.t 18)]⟩,
   ⟨(some 2), none, .move (.t 19)⟩] (some [2]))
 .ret))), [.tmp 2]⟩

-- 48 math.Float64frombits: no body
def x48 : XDecl := .ext 48

/-- cloisonne/room.open -/
def x50 : XDecl := .code ⟨2, 
 (.seq (.ops [⟨(some 2), none, .box (.t 0)⟩,
   ⟨(some 4), none, .move (.c (.pointer none))⟩,
   ⟨(some 5), none, .move (.c (.int .i64 0))⟩] (some [1, 2]))
 (.seq (.seq (.ops [⟨(some 8), none, .load true 4 (.t 2)⟩,
   ⟨(some 9), none, .call (.c (.func (.func 77) #[] #[])) [(.t 8)]⟩,
   ⟨(some 10), none, .un .not (.t 9)⟩,
   ⟨(some 11), none, .move (.t 10)⟩,
   ⟨(some 12), (some (11, false)), .move (.t 1)⟩,
   ⟨(some 13), (some (11, false)), .fieldAddr 3 (.t 2)⟩,
   ⟨(some 14), (some (11, false)), .load false 1 (.t 13)⟩,
   ⟨(some 15), (some (11, false)), .call (.c (.func (.func 39) #[] #[])) [(.t 12), (.c (.int .i64 0)), (.t 14)]⟩,
   ⟨(some 16), (some (11, false)), .un .not (.t 15)⟩,
   ⟨(some 17), none, .pick (.t 11) (.c (.bool true)) (.t 16)⟩] (some [1, 2, 17]))
 (.cond (.t 17)
  (.seq (.ops [⟨(some 4), none, .move (.c (.pointer none))⟩,
    ⟨(some 5), none, .move (.c (.int .i64 1))⟩] (some [4, 5]))
  .ret)
  .skip))
 (.seq (.ops [⟨(some 19), none, .fieldAddr 1 (.t 2)⟩,
   ⟨(some 20), none, .load false 1 (.t 19)⟩,
   ⟨(some 21), none, .move (.t 1)⟩,
   ⟨(some 22), none, .call (.c (.func (.func 78) #[] #[])) [(.t 20), (.t 21)]⟩,
   ⟨(some 18), none, .move (.t 22)⟩,
   ⟨(some 23), none, .extract (.t 18) 0⟩,
   ⟨(some 24), none, .extract (.t 18) 1⟩,
   ⟨(some 6), none, .move (.t 23)⟩,
   ⟨(some 7), none, .move (.t 24)⟩] (some [2, 6, 7]))
 (.seq (.seq (.ops [⟨(some 25), none, .move (.t 7)⟩,
   ⟨(some 26), none, .bin .neq 28 (.t 25) (.c (.int .i64 0))⟩] (some [2, 6, 7, 26]))
 (.cond (.t 26)
  (.seq (.ops [⟨(some 27), none, .move (.t 7)⟩,
    ⟨(some 4), none, .move (.c (.pointer none))⟩,
    ⟨(some 5), none, .move (.t 27)⟩] (some [4, 5]))
  .ret)
  .skip))
 (.seq (.ops [⟨(some 28), none, .fieldAddr 0 (.t 2)⟩,
   ⟨(some 29), none, .load false 1 (.t 28)⟩,
   ⟨(some 30), none, .call (.c (.func (.func 38) #[] #[])) [(.t 29)]⟩,
   ⟨(some 31), none, .fieldAddr 0 (.t 2)⟩,
   ⟨none, none, .store 1 (.t 31) (.t 30)⟩] (some [2, 6]))
 (.seq (.opsd [(0, 0, ⟨(some 32), none, .load true 4 (.t 2)⟩),
   (1, 0, ⟨(some 33), none, .move (.t 6)⟩),
   (2, 0, ⟨(some 34), none, .call (.c (.func (.func 79) #[] #[])) []⟩),
   (3, 7, ⟨(some 35), none, .build [(.slice none 0 0), (.int .i64 0), (.int .i64 0), (.int .i64 0), (.pointer none), (.pointer none), (.slice none 0 0), (.slice none 0 0), (.int .i64 0), (.int .i64 0), (.int .i64 0)] [(0, 4), (4, 1), (5, 1), (6, 1), (7, 1), (8, 1), (9, 1), (10, 1)] [(0, (.t 32)), (1, (.t 33)), (2, (.t 34))]⟩),
   (4, 15, ⟨(some 36), none, .box (.t 35)⟩),
   (5, 31, ⟨(some 4), none, .move (.t 36)⟩),
   (6, 63, ⟨(some 5), none, .move (.c (.int .i64 0))⟩)] (some [4, 5]))
 .ret)))))), [.tmp 4, .tmp 5]⟩

/-- slices.BinarySearch[[]uint64,uint64] -/
def x52 : XDecl := .code ⟨2, 
 (.seq (.ops [⟨(some 4), none, .move (.c (.int .i64 0))⟩,
   ⟨(some 5), none, .move (.c (.bool false))⟩] (some [0, 1]))
 (.seq (.ops [⟨(some 10), none, .move (.t 0)⟩,
   ⟨(some 11), none, .len (.t 10)⟩,
   ⟨(some 6), none, .move (.t 11)⟩] (some [0, 1, 6]))
 (.seq (.ops [⟨(some 12), none, .move (.t 6)⟩,
   ⟨(some 7), none, .move (.c (.int .i64 0))⟩,
   ⟨(some 8), none, .move (.t 12)⟩] (some [0, 1, 6, 7, 8]))
 (.seq (.block 0
  (.loop
   (.seq (.seq (.ops [⟨(some 13), none, .move (.t 7)⟩,
     ⟨(some 14), none, .move (.t 8)⟩,
     ⟨(some 15), none, .bin .lss 3 (.t 13) (.t 14)⟩] (some [0, 1, 6, 7, 8, 15]))
   (.cond (.t 15)
    .skip
    (.exit 0)))
   (.block 1
    (.seq (.ops [⟨(some 16), none, .move (.t 7)⟩,
      ⟨(some 17), none, .move (.t 8)⟩,
      ⟨(some 18), none, .bin .add 3 (.t 16) (.t 17)⟩,
      ⟨(some 19), none, .conv 3 136 (.t 18)⟩,
      ⟨(some 20), none, .bin .shr 136 (.t 19) (.c (.int .u64 1))⟩,
      ⟨(some 21), none, .conv 136 3 (.t 20)⟩,
      ⟨(some 9), none, .move (.t 21)⟩] (some [0, 1, 6, 7, 8, 9]))
    (.seq (.ops [⟨(some 22), none, .move (.t 0)⟩,
      ⟨(some 23), none, .move (.t 9)⟩,
      ⟨(some 24), none, .indexAddr 1 (.t 22) (.t 23)⟩,
      ⟨(some 25), none, .load false 1 (.t 24)⟩,
      ⟨(some 26), none, .move (.t 1)⟩,
      ⟨(some 27), none, .call (.c (.func (.func 80) #[] #[])) [(.t 25), (.t 26)]⟩] (some [0, 1, 6, 7, 8, 9, 27]))
    (.cond (.t 27)
     (.ops [⟨(some 28), none, .move (.t 9)⟩,
       ⟨(some 29), none, .bin .add 3 (.t 28) (.c (.int .i64 1))⟩,
       ⟨(some 7), none, .move (.t 29)⟩] (some [0, 1, 6, 7, 8]))
     (.ops [⟨(some 30), none, .move (.t 9)⟩,
       ⟨(some 8), none, .move (.t 30)⟩] (some [0, 1, 6, 7, 8])))))))))
 (.seq (.ops [⟨(some 31), none, .move (.t 7)⟩,
   ⟨(some 32), none, .move (.t 7)⟩,
   ⟨(some 33), none, .move (.t 6)⟩,
   ⟨(some 34), none, .bin .lss 3 (.t 32) (.t 33)⟩,
   ⟨(some 35), none, .move (.t 34)⟩,
   ⟨(some 36), (some (35, true)), .move (.t 0)⟩,
   ⟨(some 37), (some (35, true)), .move (.t 7)⟩,
   ⟨(some 38), (some (35, true)), .indexAddr 1 (.t 36) (.t 37)⟩,
   ⟨(some 39), (some (35, true)), .load false 1 (.t 38)⟩,
   ⟨(some 40), (some (35, true)), .move (.t 1)⟩,
   ⟨(some 41), (some (35, true)), .bin .eql 25 (.t 39) (.t 40)⟩,
   ⟨(some 42), (some (35, true)), .move (.t 41)⟩,
   ⟨(some 43), (some (42, false)), .move (.t 0)⟩,
   ⟨(some 44), (some (42, false)), .move (.t 7)⟩,
   ⟨(some 45), (some (42, false)), .indexAddr 1 (.t 43) (.t 44)⟩,
   ⟨(some 46), (some (42, false)), .load false 1 (.t 45)⟩,
   ⟨(some 47), (some (42, false)), .call (.c (.func (.func 81) #[] #[])) [(.t 46)]⟩,
   ⟨(some 48), (some (42, false)), .move (.t 47)⟩,
   ⟨(some 49), (some (48, true)), .move (.t 1)⟩,
   ⟨(some 50), (some (48, true)), .call (.c (.func (.func 81) #[] #[])) [(.t 49)]⟩,
   ⟨(some 51), (some (42, false)), .pick (.t 48) (.t 50) (.c (.bool false))⟩,
   ⟨(some 52), (some (35, true)), .pick (.t 42) (.c (.bool true)) (.t 51)⟩,
   ⟨(some 53), none, .pick (.t 35) (.t 52) (.c (.bool false))⟩,
   ⟨(some 4), none, .move (.t 31)⟩,
   ⟨(some 5), none, .move (.t 53)⟩] (some [4, 5]))
 .ret))))), [.tmp 4, .tmp 5]⟩

/-- cloisonne/chain.Right -/
def x53 : XDecl := .code ⟨1, 
 (.seq (.ops [⟨(some 2), none, .move (.c (.bool false))⟩] (some [0]))
 (.seq (.seq (.ops [⟨(some 5), none, .move (.t 0)⟩,
   ⟨(some 6), none, .len (.t 5)⟩,
   ⟨(some 7), none, .move (.c (.int .i64 0))⟩] (some [0, 5, 6, 7]))
 (.block 0
  (.loop
   (.seq (.ops [⟨(some 8), none, .bin .lss 3 (.t 7) (.t 6)⟩] (some [0, 5, 6, 7, 8]))
   (.seq (.cond (.t 8)
    .skip
    (.exit 0))
   (.seq (.block 1
    (.seq (.ops [⟨(some 9), none, .move (.t 7)⟩,
      ⟨(some 10), none, .indexAddr 5 (.t 5) (.t 7)⟩,
      ⟨(some 11), none, .load true 5 (.t 10)⟩,
      ⟨(some 4), none, .alloc [(.int .i64 0), (.bool false), (.bool false), (.string .empty), (.int .u64 0)]⟩,
      ⟨(some 3), none, .move (.t 9)⟩,
      ⟨none, none, .store 5 (.t 4) (.t 11)⟩] (some [0, 3, 4, 5, 6, 7]))
    (.seq (.opsd [(0, 0, ⟨(some 12), none, .load true 5 (.t 4)⟩),
      (1, 1, ⟨(some 13), none, .call (.c (.func (.func 82) #[] #[])) [(.t 12)]⟩),
      (2, 3, ⟨(some 14), none, .un .not (.t 13)⟩),
      (3, 7, ⟨(some 15), none, .move (.t 14)⟩),
      (4, 15, ⟨(some 16), (some (15, false)), .move (.t 3)⟩),
      (5, 31, ⟨(some 17), (some (15, false)), .bin .gtr 3 (.t 16) (.c (.int .i64 0))⟩),
      (6, 63, ⟨(some 18), (some (15, false)), .move (.t 17)⟩),
      (7, 127, ⟨(some 19), (some (18, true)), .move (.t 0)⟩),
      (8, 127, ⟨(some 20), (some (18, true)), .move (.t 3)⟩),
      (9, 383, ⟨(some 21), (some (18, true)), .bin .sub 3 (.t 20) (.c (.int .i64 1))⟩),
      (10, 1023, ⟨(some 22), (some (18, true)), .indexAddr 5 (.t 19) (.t 21)⟩),
      (11, 2047, ⟨(some 23), (some (18, true)), .fieldAddr 0 (.t 22)⟩),
      (12, 4095, ⟨(some 24), (some (18, true)), .load false 1 (.t 23)⟩),
      (13, 127, ⟨(some 25), (some (18, true)), .fieldAddr 0 (.t 4)⟩),
      (14, 8319, ⟨(some 26), (some (18, true)), .load false 1 (.t 25)⟩),
      (15, 32767, ⟨(some 27), (some (18, true)), .bin .geq 3 (.t 24) (.t 26)⟩),
      (16, 65535, ⟨(some 28), (some (15, false)), .pick (.t 18) (.t 27) (.c (.bool false))⟩),
      (17, 131071, ⟨(some 29), none, .pick (.t 15) (.c (.bool true)) (.t 28)⟩)] (some [0, 5, 6, 7, 29]))
    (.cond (.t 29)
     (.seq (.ops [⟨(some 2), none, .move (.c (.bool false))⟩] (some [2]))
     .ret)
     .skip))))
   (.ops [⟨(some 30), none, .bin .add 3 (.t 7) (.c (.int .i64 1))⟩,
     ⟨(some 7), none, .move (.t 30)⟩] (some [0, 5, 6, 7]))))))))
 (.seq (.ops [⟨(some 2), none, .move (.c (.bool true))⟩] (some [2]))
 .ret))), [.tmp 2]⟩

/-- cloisonne/chain.behind -/
def x54 : XDecl := .code ⟨2, 
 (.seq (.ops [⟨(some 4), none, .move (.c (.int .i64 0))⟩] (some [0, 1]))
 (.seq (.ops [⟨(some 8), none, .move (.t 0)⟩,
   ⟨(some 9), none, .move (.t 1)⟩,
   ⟨(some 10), none, .call (.c (.func (.func 83) #[] #[])) [(.t 8), (.t 9), (.c (.func (.func 84) #[] #[]))]⟩,
   ⟨(some 7), none, .move (.t 10)⟩,
   ⟨(some 11), none, .extract (.t 7) 0⟩,
   ⟨(some 12), none, .extract (.t 7) 1⟩,
   ⟨(some 5), none, .move (.t 11)⟩,
   ⟨(some 6), none, .move (.t 12)⟩] (some [5, 6]))
 (.seq (.seq (.ops [⟨(some 13), none, .move (.t 6)⟩] (some [5, 13]))
 (.cond (.t 13)
  (.ops [⟨(some 14), none, .move (.t 5)⟩,
    ⟨(some 15), none, .bin .add 3 (.t 14) (.c (.int .i64 1))⟩,
    ⟨(some 5), none, .move (.t 15)⟩] (some [5]))
  .skip))
 (.seq (.ops [⟨(some 16), none, .move (.t 5)⟩,
   ⟨(some 4), none, .move (.t 16)⟩] (some [4]))
 .ret)))), [.tmp 4]⟩

/-- (*cloisonne/tree.Tree).Get -/
def x55 : XDecl := .code ⟨2, 
 (.seq (.ops [⟨(some 4), none, .move (.c (.int .i64 0))⟩,
   ⟨(some 5), none, .move (.c (.bool false))⟩] (some [0, 1]))
 (.seq (.ops [⟨(some 10), none, .move (.t 0)⟩,
   ⟨(some 11), none, .move (.t 1)⟩,
   ⟨(some 12), none, .call (.c (.func (.func 85) #[] #[])) [(.t 10), (.t 11)]⟩,
   ⟨(some 9), none, .move (.t 12)⟩,
   ⟨(some 13), none, .extract (.t 9) 0⟩,
   ⟨(some 14), none, .extract (.t 9) 1⟩,
   ⟨(some 15), none, .extract (.t 9) 2⟩,
   ⟨(some 6), none, .move (.t 13)⟩,
   ⟨(some 7), none, .move (.t 14)⟩,
   ⟨(some 8), none, .move (.t 15)⟩] (some [6, 7, 8]))
 (.seq (.seq (.ops [⟨(some 16), none, .move (.t 8)⟩,
   ⟨(some 17), none, .un .not (.t 16)⟩] (some [6, 7, 17]))
 (.cond (.t 17)
  (.seq (.ops [⟨(some 4), none, .move (.c (.int .i64 0))⟩,
    ⟨(some 5), none, .move (.c (.bool false))⟩] (some [4, 5]))
  .ret)
  .skip))
 (.seq (.ops [⟨(some 18), none, .move (.t 6)⟩,
   ⟨(some 19), none, .nilCheck (.t 18)⟩,
   ⟨(some 20), none, .fieldAddr 1 (.t 19)⟩,
   ⟨(some 21), none, .load false 1 (.t 20)⟩,
   ⟨(some 22), none, .move (.t 7)⟩,
   ⟨(some 23), none, .indexAddr 1 (.t 21) (.t 22)⟩,
   ⟨(some 24), none, .load false 1 (.t 23)⟩,
   ⟨(some 4), none, .move (.t 24)⟩,
   ⟨(some 5), none, .move (.c (.bool true))⟩] (some [4, 5]))
 .ret)))), [.tmp 4, .tmp 5]⟩

/-- (*cloisonne/tree.Tree).some -/
def x56 : XDecl := .code ⟨1, 
 (.seq (.ops [⟨(some 2), none, .move (.c (.bool false))⟩] (some [0]))
 (.seq (.ops [⟨(some 3), none, .move (.t 0)⟩,
   ⟨(some 4), none, .isNil .ptr true (.t 3)⟩,
   ⟨(some 5), none, .move (.t 4)⟩,
   ⟨(some 6), (some (5, true)), .move (.t 0)⟩,
   ⟨(some 7), (some (5, true)), .nilCheck (.t 6)⟩,
   ⟨(some 8), (some (5, true)), .fieldAddr 2 (.t 7)⟩,
   ⟨(some 9), (some (5, true)), .load false 1 (.t 8)⟩,
   ⟨(some 10), (some (5, true)), .bin .geq 3 (.t 9) (.c (.int .i64 0))⟩,
   ⟨(some 11), none, .pick (.t 5) (.t 10) (.c (.bool false))⟩,
   ⟨(some 2), none, .move (.t 11)⟩] (some [2]))
 .ret)), [.tmp 2]⟩

/-- (*cloisonne/tree.Tree).first -/
def x57 : XDecl := .code ⟨4, 
 (.seq (.ops [⟨(some 8), none, .move (.c (.string .empty))⟩,
   ⟨(some 9), none, .move (.c (.int .i64 0))⟩,
   ⟨(some 10), none, .move (.c (.bool false))⟩] (some [0, 1, 2, 3]))
 (.seq (.ops [⟨(some 18), none, .move (.t 0)⟩,
   ⟨(some 19), none, .nilCheck (.t 18)⟩,
   ⟨(some 20), none, .fieldAddr 0 (.t 19)⟩,
   ⟨(some 21), none, .load false 1 (.t 20)⟩,
   ⟨(some 22), none, .move (.t 1)⟩,
   ⟨(some 23), none, .indexAddr 3 (.t 21) (.t 22)⟩,
   ⟨(some 11), none, .move (.t 23)⟩] (some [0, 2, 3, 11]))
 (.seq (.seq (.ops [⟨(some 24), none, .move (.t 11)⟩,
   ⟨(some 25), none, .call (.c (.func (.func 86) #[] #[])) [(.t 24)]⟩] (some [0, 2, 3, 11, 25]))
 (.cond (.t 25)
  (.seq (.ops [⟨(some 27), none, .move (.t 11)⟩,
    ⟨(some 28), none, .nilCheck (.t 27)⟩,
    ⟨(some 29), none, .fieldAddr 0 (.t 28)⟩,
    ⟨(some 30), none, .load false 1 (.t 29)⟩,
    ⟨(some 31), none, .move (.t 2)⟩,
    ⟨(some 32), none, .call (.c (.func (.func 87) #[] #[])) [(.t 30), (.t 31)]⟩,
    ⟨(some 26), none, .move (.t 32)⟩,
    ⟨(some 33), none, .extract (.t 26) 0⟩,
    ⟨(some 34), none, .extract (.t 26) 1⟩,
    ⟨(some 12), none, .move (.t 33)⟩,
    ⟨(some 13), none, .move (.t 34)⟩] (some [3, 11, 12, 13]))
  (.seq (.seq (.ops [⟨(some 35), none, .move (.t 13)⟩,
    ⟨(some 36), none, .move (.t 35)⟩,
    ⟨(some 37), (some (36, true)), .move (.t 3)⟩,
    ⟨(some 38), none, .pick (.t 36) (.t 37) (.c (.bool false))⟩] (some [11, 12, 38]))
  (.cond (.t 38)
   (.ops [⟨(some 39), none, .move (.t 12)⟩,
     ⟨(some 40), none, .bin .add 3 (.t 39) (.c (.int .i64 1))⟩,
     ⟨(some 12), none, .move (.t 40)⟩] (some [11, 12]))
   .skip))
  (.seq (.seq (.ops [⟨(some 41), none, .move (.t 12)⟩,
    ⟨(some 42), none, .move (.t 11)⟩,
    ⟨(some 43), none, .nilCheck (.t 42)⟩,
    ⟨(some 44), none, .fieldAddr 0 (.t 43)⟩,
    ⟨(some 45), none, .load false 1 (.t 44)⟩,
    ⟨(some 46), none, .len (.t 45)⟩,
    ⟨(some 47), none, .bin .geq 3 (.t 41) (.t 46)⟩] (some [11, 12, 47]))
  (.cond (.t 47)
   (.seq (.ops [⟨(some 8), none, .move (.c (.string .empty))⟩,
     ⟨(some 9), none, .move (.c (.int .i64 0))⟩,
     ⟨(some 10), none, .move (.c (.bool false))⟩] (some [8, 9, 10]))
   .ret)
   .skip))
  (.seq (.opsr [⟨(some 48), none, .move (.t 11)⟩,
    ⟨(some 49), none, .nilCheck (.t 48)⟩,
    ⟨(some 50), none, .fieldAddr 0 (.t 49)⟩,
    ⟨(some 51), none, .load false 1 (.t 50)⟩,
    ⟨(some 52), none, .move (.t 12)⟩,
    ⟨(some 53), none, .indexAddr 1 (.t 51) (.t 52)⟩,
    ⟨(some 54), none, .load false 1 (.t 53)⟩,
    ⟨(some 55), none, .move (.t 11)⟩,
    ⟨(some 56), none, .nilCheck (.t 55)⟩,
    ⟨(some 57), none, .fieldAddr 1 (.t 56)⟩,
    ⟨(some 58), none, .load false 1 (.t 57)⟩,
    ⟨(some 59), none, .move (.t 12)⟩,
    ⟨(some 60), none, .indexAddr 1 (.t 58) (.t 59)⟩,
    ⟨(some 61), none, .load false 1 (.t 60)⟩,
    ⟨(some 8), none, .move (.t 54)⟩,
    ⟨(some 9), none, .move (.t 61)⟩,
    ⟨(some 10), none, .move (.c (.bool true))⟩] (some [8, 9, 10]))
  .ret))))
  .skip))
 (.seq (.ops [⟨(some 62), none, .move (.t 11)⟩,
   ⟨(some 63), none, .move (.t 2)⟩,
   ⟨(some 64), none, .call (.c (.func (.func 88) #[] #[])) [(.t 62), (.t 63)]⟩,
   ⟨(some 14), none, .move (.t 64)⟩] (some [0, 2, 3, 11, 14]))
 (.seq (.seq (.ops [⟨(some 66), none, .move (.t 0)⟩,
   ⟨(some 67), none, .move (.t 11)⟩,
   ⟨(some 68), none, .nilCheck (.t 67)⟩,
   ⟨(some 69), none, .fieldAddr 2 (.t 68)⟩,
   ⟨(some 70), none, .load false 1 (.t 69)⟩,
   ⟨(some 71), none, .move (.t 14)⟩,
   ⟨(some 72), none, .indexAddr 1 (.t 70) (.t 71)⟩,
   ⟨(some 73), none, .load false 1 (.t 72)⟩,
   ⟨(some 74), none, .move (.t 2)⟩,
   ⟨(some 75), none, .move (.t 3)⟩,
   ⟨(some 76), none, .call (.c (.func (.func 57) #[] #[])) [(.t 66), (.t 73), (.t 74), (.t 75)]⟩,
   ⟨(some 65), none, .move (.t 76)⟩,
   ⟨(some 77), none, .extract (.t 65) 0⟩,
   ⟨(some 78), none, .extract (.t 65) 1⟩,
   ⟨(some 79), none, .extract (.t 65) 2⟩,
   ⟨(some 15), none, .move (.t 77)⟩,
   ⟨(some 16), none, .move (.t 78)⟩,
   ⟨(some 17), none, .move (.t 79)⟩] (some [0, 11, 14, 15, 16, 17]))
 (.seq (.ops [⟨(some 80), none, .move (.t 17)⟩] (some [0, 11, 14, 15, 16, 80]))
 (.cond (.t 80)
  (.seq (.ops [⟨(some 81), none, .move (.t 15)⟩,
    ⟨(some 82), none, .move (.t 16)⟩,
    ⟨(some 8), none, .move (.t 81)⟩,
    ⟨(some 9), none, .move (.t 82)⟩,
    ⟨(some 10), none, .move (.c (.bool true))⟩] (some [8, 9, 10]))
  .ret)
  .skip)))
 (.seq (.seq (.ops [⟨(some 83), none, .move (.t 14)⟩,
   ⟨(some 84), none, .bin .add 3 (.t 83) (.c (.int .i64 1))⟩,
   ⟨(some 85), none, .move (.t 11)⟩,
   ⟨(some 86), none, .nilCheck (.t 85)⟩,
   ⟨(some 87), none, .fieldAddr 2 (.t 86)⟩,
   ⟨(some 88), none, .load false 1 (.t 87)⟩,
   ⟨(some 89), none, .len (.t 88)⟩,
   ⟨(some 90), none, .bin .lss 3 (.t 84) (.t 89)⟩] (some [0, 11, 14, 90]))
 (.cond (.t 90)
  (.seq (.ops [⟨(some 91), none, .move (.t 0)⟩,
    ⟨(some 92), none, .move (.t 11)⟩,
    ⟨(some 93), none, .nilCheck (.t 92)⟩,
    ⟨(some 94), none, .fieldAddr 2 (.t 93)⟩,
    ⟨(some 95), none, .load false 1 (.t 94)⟩,
    ⟨(some 96), none, .move (.t 14)⟩,
    ⟨(some 97), none, .bin .add 3 (.t 96) (.c (.int .i64 1))⟩,
    ⟨(some 98), none, .indexAddr 1 (.t 95) (.t 97)⟩,
    ⟨(some 99), none, .load false 1 (.t 98)⟩,
    ⟨(some 100), none, .call (.c (.func (.func 89) #[] #[])) [(.t 91), (.t 99), (.c (.bool false))]⟩,
    ⟨(some 101), none, .extract (.t 100) 0⟩,
    ⟨(some 102), none, .extract (.t 100) 1⟩,
    ⟨(some 103), none, .extract (.t 100) 2⟩,
    ⟨(some 8), none, .move (.t 101)⟩,
    ⟨(some 9), none, .move (.t 102)⟩,
    ⟨(some 10), none, .move (.t 103)⟩] (some [8, 9, 10]))
  .ret)
  .skip))
 (.seq (.ops [⟨(some 8), none, .move (.c (.string .empty))⟩,
   ⟨(some 9), none, .move (.c (.int .i64 0))⟩,
   ⟨(some 10), none, .move (.c (.bool false))⟩] (some [8, 9, 10]))
 .ret))))))), [.tmp 8, .tmp 9, .tmp 10]⟩

/-- cloisonne/room.key -/
def x58 : XDecl := .code ⟨1, 
 (.seq (.ops [⟨(some 2), none, .move (.c (.bool false))⟩] (some [0]))
 (.seq (.ops [⟨(some 3), none, .move (.t 0)⟩,
   ⟨(some 4), none, .calcB .len [9] 3 [(.t 3)]⟩,
   ⟨(some 5), none, .call (.c (.func (.func 39) #[] #[])) [(.t 4), (.c (.int .i64 1)), (.c (.int .i64 32))]⟩,
   ⟨(some 2), none, .move (.t 5)⟩] (some [2]))
 .ret)), [.tmp 2]⟩

/-- cloisonne/value.Right -/
def x59 : XDecl := .code ⟨1, 
 (.seq (.ops [⟨(some 1), none, .box (.t 0)⟩,
   ⟨(some 2), none, .move (.c (.bool false))⟩] (some [1]))
 (.seq (.seq (.ops [⟨(some 3), none, .fieldAddr 0 (.t 1)⟩,
   ⟨(some 4), none, .load false 1 (.t 3)⟩] (some [1, 4]))
 (.cond (.t 4)
  (.seq (.opsd [(0, 0, ⟨(some 5), none, .fieldAddr 1 (.t 1)⟩),
    (1, 1, ⟨(some 6), none, .load false 1 (.t 5)⟩),
    (2, 3, ⟨(some 7), none, .bin .eql 9 (.t 6) (.c (.string .empty))⟩),
    (3, 7, ⟨(some 8), none, .move (.t 7)⟩),
    (4, 15, ⟨(some 9), (some (8, true)), .fieldAddr 2 (.t 1)⟩),
    (5, 31, ⟨(some 10), (some (8, true)), .load false 1 (.t 9)⟩),
    (8, 15, ⟨(some 13), (some (8, true)), .fieldAddr 2 (.t 1)⟩),
    (9, 271, ⟨(some 14), (some (8, true)), .load false 1 (.t 13)⟩),
    (6, 63, ⟨(some 11), (some (8, true)), .call (.c (.func (.func 91) #[] #[])) [(.t 10)]⟩),
    (7, 127, ⟨(some 12), (some (8, true)), .call (.c (.func (.func 90) #[] #[])) [(.t 11)]⟩),
    (10, 1023, ⟨(some 15), (some (8, true)), .bin .eql 25 (.t 12) (.t 14)⟩),
    (11, 2047, ⟨(some 16), none, .pick (.t 8) (.t 15) (.c (.bool false))⟩),
    (12, 4095, ⟨(some 2), none, .move (.t 16)⟩)] (some [2]))
  .ret)
  .skip))
 (.seq (.ops [⟨(some 17), none, .fieldAddr 2 (.t 1)⟩,
   ⟨(some 18), none, .load false 1 (.t 17)⟩,
   ⟨(some 19), none, .bin .eql 25 (.t 18) (.c (.int .u64 0))⟩,
   ⟨(some 20), none, .move (.t 19)⟩,
   ⟨(some 21), (some (20, true)), .fieldAddr 1 (.t 1)⟩,
   ⟨(some 22), (some (20, true)), .load false 1 (.t 21)⟩,
   ⟨(some 23), (some (20, true)), .calcB .len [9] 3 [(.t 22)]⟩,
   ⟨(some 24), (some (20, true)), .bin .leq 3 (.t 23) (.c (.int .i64 64))⟩,
   ⟨(some 25), none, .pick (.t 20) (.t 24) (.c (.bool false))⟩,
   ⟨(some 2), none, .move (.t 25)⟩] (some [2]))
 .ret))), [.tmp 2]⟩

/-- cloisonne/room.lives -/
def x60 : XDecl := .code ⟨2, 
 (.seq (.ops [⟨(some 4), none, .move (.c (.int .i64 0))⟩] (some [0, 1]))
 (.seq (.ops [⟨(some 6), none, .move (.t 1)⟩,
   ⟨(some 7), none, .call (.c (.func (.func 92) #[] #[])) [(.t 6)]⟩,
   ⟨(some 5), none, .move (.t 7)⟩] (some [0, 5]))
 (.seq (.seq (.ops [⟨(some 8), none, .move (.t 5)⟩,
   ⟨(some 9), none, .bin .eql 3 (.t 8) (.c (.int .i64 0))⟩] (some [0, 5, 9]))
 (.cond (.t 9)
  (.seq (.ops [⟨(some 4), none, .move (.c (.int .i64 0))⟩] (some [4]))
  .ret)
  .skip))
 (.seq (.ops [⟨(some 10), none, .move (.t 0)⟩,
   ⟨(some 11), none, .calcB .len [9] 3 [(.t 10)]⟩,
   ⟨(some 12), none, .move (.t 5)⟩,
   ⟨(some 13), none, .bin .add 3 (.t 11) (.t 12)⟩,
   ⟨(some 4), none, .move (.t 13)⟩] (some [4]))
 .ret)))), [.tmp 4]⟩

/-- cloisonne/value.Weight -/
def x61 : XDecl := .code ⟨1, 
 (.seq (.ops [⟨(some 1), none, .box (.t 0)⟩,
   ⟨(some 2), none, .move (.c (.int .i64 0))⟩] (some [1]))
 (.seq (.ops [⟨(some 6), none, .load true 3 (.t 1)⟩,
   ⟨(some 7), none, .call (.c (.func (.func 93) #[] #[])) [(.t 6)]⟩,
   ⟨(some 5), none, .move (.t 7)⟩,
   ⟨(some 8), none, .extract (.t 5) 0⟩,
   ⟨(some 9), none, .extract (.t 5) 1⟩,
   ⟨(some 3), none, .move (.t 8)⟩,
   ⟨(some 4), none, .move (.t 9)⟩] (some [3]))
 (.seq (.ops [⟨(some 10), none, .move (.t 3)⟩,
   ⟨(some 11), none, .calcB .len [9] 3 [(.t 10)]⟩,
   ⟨(some 2), none, .move (.t 11)⟩] (some [2]))
 .ret))), [.tmp 2]⟩

/-- (*cloisonne/ring.Ring).last -/
def x62 : XDecl := .code ⟨1, 
 (.seq (.ops [⟨(some 2), none, .move (.c (.int .u64 0))⟩] (some [0]))
 (.seq (.seq (.ops [⟨(some 3), none, .move (.t 0)⟩,
   ⟨(some 4), none, .nilCheck (.t 3)⟩,
   ⟨(some 5), none, .fieldAddr 3 (.t 4)⟩,
   ⟨(some 6), none, .load false 1 (.t 5)⟩,
   ⟨(some 7), none, .len (.t 6)⟩,
   ⟨(some 8), none, .bin .eql 3 (.t 7) (.c (.int .i64 0))⟩] (some [0, 8]))
 (.cond (.t 8)
  (.seq (.ops [⟨(some 2), none, .move (.c (.int .u64 0))⟩] (some [2]))
  .ret)
  .skip))
 (.seq (.opsr [⟨(some 9), none, .move (.t 0)⟩,
   ⟨(some 10), none, .nilCheck (.t 9)⟩,
   ⟨(some 11), none, .fieldAddr 3 (.t 10)⟩,
   ⟨(some 12), none, .load false 1 (.t 11)⟩,
   ⟨(some 13), none, .move (.t 0)⟩,
   ⟨(some 14), none, .nilCheck (.t 13)⟩,
   ⟨(some 15), none, .fieldAddr 3 (.t 14)⟩,
   ⟨(some 16), none, .load false 1 (.t 15)⟩,
   ⟨(some 17), none, .len (.t 16)⟩,
   ⟨(some 18), none, .bin .sub 3 (.t 17) (.c (.int .i64 1))⟩,
   ⟨(some 19), none, .indexAddr 1 (.t 12) (.t 18)⟩,
   ⟨(some 20), none, .load false 1 (.t 19)⟩,
   ⟨(some 2), none, .move (.t 20)⟩] (some [2]))
 .ret))), [.tmp 2]⟩

/-- slices.Delete[[]uint64,uint64] -/
def x63 : XDecl := .code ⟨3, 
 (.seq (.ops [⟨(some 6), none, .move (.c (.slice none 0 0))⟩] (some [0, 1, 2]))
 (.seq (.ops [⟨(some 8), none, .move (.t 0)⟩,
   ⟨(some 9), none, .move (.t 1)⟩,
   ⟨(some 10), none, .move (.t 2)⟩,
   ⟨(some 11), none, .move (.t 0)⟩,
   ⟨(some 12), none, .len (.t 11)⟩,
   ⟨(some 13), none, .slice 1 (.t 8) (some (.t 9)) (some (.t 10)) (some (.t 12))⟩] (some [0, 1, 2]))
 (.seq (.seq (.ops [⟨(some 14), none, .move (.t 1)⟩,
   ⟨(some 15), none, .move (.t 2)⟩,
   ⟨(some 16), none, .bin .eql 3 (.t 14) (.t 15)⟩] (some [0, 1, 2, 16]))
 (.cond (.t 16)
  (.seq (.ops [⟨(some 17), none, .move (.t 0)⟩,
    ⟨(some 6), none, .move (.t 17)⟩] (some [6]))
  .ret)
  .skip))
 (.seq (.ops [⟨(some 18), none, .move (.t 0)⟩,
   ⟨(some 19), none, .len (.t 18)⟩,
   ⟨(some 7), none, .move (.t 19)⟩] (some [0, 1, 2, 7]))
 (.seq (.opsd [(0, 0, ⟨(some 20), none, .move (.t 0)⟩),
   (1, 0, ⟨(some 21), none, .move (.t 1)⟩),
   (2, 3, ⟨(some 22), none, .slice 1 (.t 20) none (some (.t 21)) none⟩),
   (3, 0, ⟨(some 23), none, .move (.t 0)⟩),
   (4, 0, ⟨(some 24), none, .move (.t 2)⟩),
   (5, 24, ⟨(some 25), none, .slice 1 (.t 23) (some (.t 24)) none none⟩),
   (6, 63, ⟨(some 26), none, .append 1 8 [(.int .u64 0)] (.t 22) (.t 25)⟩),
   (7, 127, ⟨(some 0), none, .move (.t 26)⟩)] (some [0, 7]))
 (.seq (.ops [⟨(some 27), none, .move (.t 0)⟩,
   ⟨(some 28), none, .move (.t 0)⟩,
   ⟨(some 29), none, .len (.t 28)⟩,
   ⟨(some 30), none, .move (.t 7)⟩,
   ⟨(some 31), none, .slice 1 (.t 27) (some (.t 29)) (some (.t 30)) none⟩,
   ⟨none, none, .clear [(.int .u64 0)] (.t 31)⟩] (some [0]))
 (.seq (.ops [⟨(some 32), none, .move (.t 0)⟩,
   ⟨(some 6), none, .move (.t 32)⟩] (some [6]))
 .ret))))))), [.tmp 6]⟩

/-- cloisonne/chain.Add -/
def x64 : XDecl := .code ⟨2, 
 (.seq (.ops [⟨(some 3), none, .box (.t 1)⟩,
   ⟨(some 4), none, .move (.c (.slice none 0 0))⟩,
   ⟨(some 5), none, .move (.c (.int .i64 0))⟩] (some [0, 3]))
 (.seq (.opsd [(0, 0, ⟨(some 7), none, .move (.t 0)⟩),
   (2, 0, ⟨(some 9), none, .load true 5 (.t 3)⟩),
   (3, 4, ⟨(some 10), none, .buildSlice [(.int .i64 0), (.bool false), (.bool false), (.string .empty), (.int .u64 0)] 5 1 [(0, (.t 9))]⟩),
   (1, 1, ⟨(some 8), none, .call (.c (.func (.func 69) #[] #[])) [(.t 7)]⟩),
   (4, 15, ⟨(some 11), none, .append 5 48 [(.int .i64 0), (.bool false), (.bool false), (.string .empty), (.int .u64 0)] (.t 8) (.t 10)⟩),
   (5, 31, ⟨(some 6), none, .move (.t 11)⟩)] (some [6]))
 (.seq (.seq (.ops [⟨(some 12), none, .move (.t 6)⟩,
   ⟨(some 13), none, .call (.c (.func (.func 53) #[] #[])) [(.t 12)]⟩,
   ⟨(some 14), none, .un .not (.t 13)⟩] (some [6, 14]))
 (.cond (.t 14)
  (.seq (.ops [⟨(some 4), none, .move (.c (.slice none 0 0))⟩,
    ⟨(some 5), none, .move (.c (.int .i64 1))⟩] (some [4, 5]))
  .ret)
  .skip))
 (.seq (.ops [⟨(some 15), none, .move (.t 6)⟩,
   ⟨(some 4), none, .move (.t 15)⟩,
   ⟨(some 5), none, .move (.c (.int .i64 0))⟩] (some [4, 5]))
 .ret)))), [.tmp 4, .tmp 5]⟩

/-- (*cloisonne/tree.Tree).Keys -/
def x65 : XDecl := .code ⟨3, 
 (.seq (.ops [⟨(some 6), none, .move (.c (.slice none 0 0))⟩] (some [0, 1, 2]))
 (.seq (.ops [⟨(some 7), none, .move (.c (.slice none 0 0))⟩] (some [0, 1, 2, 7]))
 (.seq (.ops [⟨(some 12), none, .move (.t 0)⟩,
   ⟨(some 13), none, .move (.t 1)⟩,
   ⟨(some 14), none, .call (.c (.func (.func 33) #[] #[])) [(.t 12), (.t 13)]⟩,
   ⟨(some 11), none, .move (.t 14)⟩,
   ⟨(some 15), none, .extract (.t 11) 0⟩,
   ⟨(some 16), none, .extract (.t 11) 1⟩,
   ⟨(some 17), none, .extract (.t 11) 2⟩,
   ⟨(some 8), none, .move (.t 15)⟩,
   ⟨(some 9), none, .move (.t 16)⟩,
   ⟨(some 10), none, .move (.t 17)⟩] (some [0, 2, 7, 8, 10]))
 (.seq (.block 0
  (.loop
   (.seq (.seq (.ops [⟨(some 18), none, .move (.t 10)⟩,
     ⟨(some 19), none, .move (.t 18)⟩,
     ⟨(some 20), (some (19, true)), .move (.t 7)⟩,
     ⟨(some 21), (some (19, true)), .len (.t 20)⟩,
     ⟨(some 22), (some (19, true)), .move (.t 2)⟩,
     ⟨(some 23), (some (19, true)), .bin .lss 3 (.t 21) (.t 22)⟩,
     ⟨(some 24), none, .pick (.t 19) (.t 23) (.c (.bool false))⟩] (some [0, 2, 7, 8, 24]))
   (.cond (.t 24)
    .skip
    (.exit 0)))
   (.block 1
    (.seq (.ops [⟨(some 25), none, .move (.t 7)⟩,
      ⟨(some 26), none, .move (.t 8)⟩,
      ⟨(some 27), none, .buildSlice [(.string .empty)] 1 1 [(0, (.t 26))]⟩,
      ⟨(some 28), none, .append 1 16 [(.string .empty)] (.t 25) (.t 27)⟩,
      ⟨(some 7), none, .move (.t 28)⟩] (some [0, 2, 7, 8]))
    (.ops [⟨(some 30), none, .move (.t 0)⟩,
      ⟨(some 31), none, .move (.t 8)⟩,
      ⟨(some 32), none, .call (.c (.func (.func 31) #[] #[])) [(.t 30), (.t 31)]⟩,
      ⟨(some 29), none, .move (.t 32)⟩,
      ⟨(some 33), none, .extract (.t 29) 0⟩,
      ⟨(some 34), none, .extract (.t 29) 1⟩,
      ⟨(some 35), none, .extract (.t 29) 2⟩,
      ⟨(some 8), none, .move (.t 33)⟩,
      ⟨(some 10), none, .move (.t 35)⟩] (some [0, 2, 7, 8, 10])))))))
 (.seq (.ops [⟨(some 36), none, .move (.t 7)⟩,
   ⟨(some 6), none, .move (.t 36)⟩] (some [6]))
 .ret))))), [.tmp 6]⟩

/-- (*cloisonne/tree.Tree).Len -/
def x66 : XDecl := .code ⟨1, 
 (.seq (.ops [⟨(some 2), none, .move (.c (.int .i64 0))⟩] (some [0]))
 (.seq (.seq (.ops [⟨(some 3), none, .move (.t 0)⟩,
   ⟨(some 4), none, .isNil .ptr false (.t 3)⟩] (some [0, 4]))
 (.cond (.t 4)
  (.seq (.ops [⟨(some 2), none, .move (.c (.int .i64 0))⟩] (some [2]))
  .ret)
  .skip))
 (.seq (.ops [⟨(some 5), none, .move (.t 0)⟩,
   ⟨(some 6), none, .nilCheck (.t 5)⟩,
   ⟨(some 7), none, .fieldAddr 3 (.t 6)⟩,
   ⟨(some 8), none, .load false 1 (.t 7)⟩,
   ⟨(some 2), none, .move (.t 8)⟩] (some [2]))
 .ret))), [.tmp 2]⟩

/-- (*cloisonne/tree.Tree).Del -/
def x67 : XDecl := .code ⟨2, 
 (.seq (.ops [⟨(some 4), none, .move (.c (.int .i64 0))⟩,
   ⟨(some 5), none, .move (.c (.bool false))⟩] (some [0, 1]))
 (.seq (.ops [⟨(some 10), none, .move (.t 0)⟩,
   ⟨(some 11), none, .move (.t 1)⟩,
   ⟨(some 12), none, .call (.c (.func (.func 55) #[] #[])) [(.t 10), (.t 11)]⟩,
   ⟨(some 9), none, .move (.t 12)⟩,
   ⟨(some 13), none, .extract (.t 9) 0⟩,
   ⟨(some 14), none, .extract (.t 9) 1⟩,
   ⟨(some 6), none, .move (.t 13)⟩,
   ⟨(some 7), none, .move (.t 14)⟩] (some [0, 1, 6, 7]))
 (.seq (.seq (.ops [⟨(some 15), none, .move (.t 7)⟩,
   ⟨(some 16), none, .un .not (.t 15)⟩] (some [0, 1, 6, 16]))
 (.cond (.t 16)
  (.seq (.ops [⟨(some 4), none, .move (.c (.int .i64 0))⟩,
    ⟨(some 5), none, .move (.c (.bool false))⟩] (some [4, 5]))
  .ret)
  .skip))
 (.seq (.ops [⟨(some 17), none, .move (.t 0)⟩,
   ⟨(some 18), none, .nilCheck (.t 17)⟩,
   ⟨(some 19), none, .fieldAddr 3 (.t 18)⟩,
   ⟨(some 20), none, .load false 1 (.t 19)⟩,
   ⟨(some 21), none, .bin .sub 3 (.t 20) (.c (.int .i64 1))⟩,
   ⟨(some 22), none, .nilCheck (.t 17)⟩,
   ⟨(some 23), none, .fieldAddr 3 (.t 22)⟩,
   ⟨none, none, .store 1 (.t 23) (.t 21)⟩] (some [0, 1, 6]))
 (.seq (.ops [⟨(some 24), none, .move (.t 0)⟩,
   ⟨(some 25), none, .move (.t 0)⟩,
   ⟨(some 26), none, .nilCheck (.t 25)⟩,
   ⟨(some 27), none, .fieldAddr 2 (.t 26)⟩,
   ⟨(some 28), none, .load false 1 (.t 27)⟩,
   ⟨(some 29), none, .move (.t 1)⟩,
   ⟨(some 30), none, .call (.c (.func (.func 94) #[] #[])) [(.t 24), (.t 28), (.t 29)]⟩] (some [0, 6]))
 (.seq (.seq (.opsd [(0, 0, ⟨(some 31), none, .move (.t 0)⟩),
   (1, 1, ⟨(some 32), none, .nilCheck (.t 31)⟩),
   (2, 3, ⟨(some 33), none, .fieldAddr 0 (.t 32)⟩),
   (3, 7, ⟨(some 34), none, .load false 1 (.t 33)⟩),
   (4, 0, ⟨(some 35), none, .move (.t 0)⟩),
   (5, 16, ⟨(some 36), none, .nilCheck (.t 35)⟩),
   (6, 48, ⟨(some 37), none, .fieldAddr 2 (.t 36)⟩),
   (7, 112, ⟨(some 38), none, .load false 1 (.t 37)⟩),
   (8, 255, ⟨(some 39), none, .indexAddr 3 (.t 34) (.t 38)⟩),
   (9, 511, ⟨(some 40), none, .load true 3 (.t 39)⟩),
   (10, 0, ⟨(some 8), none, .alloc [(.slice none 0 0), (.slice none 0 0), (.slice none 0 0)]⟩),
   (11, 2047, ⟨none, none, .store 3 (.t 8) (.t 40)⟩)] (some [0, 6, 8]))
 (.block 0
  (.seq (.ops [⟨(some 42), none, .fieldAddr 2 (.t 8)⟩,
    ⟨(some 43), none, .load false 1 (.t 42)⟩,
    ⟨(some 44), none, .len (.t 43)⟩,
    ⟨(some 45), none, .bin .eql 3 (.t 44) (.c (.int .i64 1))⟩,
    ⟨(some 41), none, .move (.t 45)⟩] (some [0, 6, 8, 41]))
  (.cond (.t 41)
   (.seq (.ops [⟨(some 46), none, .move (.t 0)⟩,
     ⟨(some 47), none, .move (.t 0)⟩,
     ⟨(some 48), none, .nilCheck (.t 47)⟩,
     ⟨(some 49), none, .fieldAddr 2 (.t 48)⟩,
     ⟨(some 50), none, .load false 1 (.t 49)⟩,
     ⟨(some 51), none, .call (.c (.func (.func 95) #[] #[])) [(.t 46), (.t 50)]⟩] (some [0, 6, 8]))
   (.ops [⟨(some 52), none, .move (.t 0)⟩,
     ⟨(some 53), none, .fieldAddr 2 (.t 8)⟩,
     ⟨(some 54), none, .load false 1 (.t 53)⟩,
     ⟨(some 55), none, .indexAddr 1 (.t 54) (.c (.int .i64 0))⟩,
     ⟨(some 56), none, .load false 1 (.t 55)⟩,
     ⟨(some 57), none, .nilCheck (.t 52)⟩,
     ⟨(some 58), none, .fieldAddr 2 (.t 57)⟩,
     ⟨none, none, .store 1 (.t 58) (.t 56)⟩] (some [6])))
   (.seq (.ops [⟨(some 60), none, .call (.c (.func (.func 86) #[] #[])) [(.t 8)]⟩,
     ⟨(some 61), none, .move (.t 60)⟩,
     ⟨(some 62), (some (61, true)), .fieldAddr 0 (.t 8)⟩,
     ⟨(some 63), (some (61, true)), .load false 1 (.t 62)⟩,
     ⟨(some 64), (some (61, true)), .len (.t 63)⟩,
     ⟨(some 65), (some (61, true)), .bin .eql 3 (.t 64) (.c (.int .i64 0))⟩,
     ⟨(some 66), none, .pick (.t 61) (.t 65) (.c (.bool false))⟩,
     ⟨(some 59), none, .move (.t 66)⟩] (some [0, 6, 59]))
   (.cond (.t 59)
    (.seq (.ops [⟨(some 67), none, .move (.t 0)⟩,
      ⟨(some 68), none, .move (.t 0)⟩,
      ⟨(some 69), none, .nilCheck (.t 68)⟩,
      ⟨(some 70), none, .fieldAddr 2 (.t 69)⟩,
      ⟨(some 71), none, .load false 1 (.t 70)⟩,
      ⟨(some 72), none, .call (.c (.func (.func 95) #[] #[])) [(.t 67), (.t 71)]⟩] (some [0, 6]))
    (.ops [⟨(some 73), none, .move (.t 0)⟩,
      ⟨(some 74), none, .nilCheck (.t 73)⟩,
      ⟨(some 75), none, .fieldAddr 2 (.t 74)⟩,
      ⟨none, none, .store 1 (.t 75) (.c (.int .i64 (-1)))⟩] (some [6])))
    .skip))))))
 (.seq (.ops [⟨(some 76), none, .move (.t 6)⟩,
   ⟨(some 4), none, .move (.t 76)⟩,
   ⟨(some 5), none, .move (.c (.bool true))⟩] (some [4, 5]))
 .ret))))))), [.tmp 4, .tmp 5]⟩

/-- (*cloisonne/tree.Tree).Put -/
def x68 : XDecl := .code ⟨3, 
 (.seq (.ops [⟨(some 6), none, .move (.c (.int .i64 0))⟩,
   ⟨(some 7), none, .move (.c (.bool false))⟩,
   ⟨(some 8), none, .move (.c (.int .i64 0))⟩] (some [0, 1, 2]))
 (.seq (.seq (.ops [⟨(some 16), none, .move (.t 0)⟩,
   ⟨(some 17), none, .isNil .ptr false (.t 16)⟩] (some [0, 1, 2, 17]))
 (.cond (.t 17)
  (.seq (.ops [⟨(some 6), none, .move (.c (.int .i64 0))⟩,
    ⟨(some 7), none, .move (.c (.bool false))⟩,
    ⟨(some 8), none, .move (.c (.int .i64 2))⟩] (some [6, 7, 8]))
  .ret)
  .skip))
 (.seq (.seq (.ops [⟨(some 19), none, .move (.t 0)⟩,
   ⟨(some 20), none, .move (.t 1)⟩,
   ⟨(some 21), none, .call (.c (.func (.func 85) #[] #[])) [(.t 19), (.t 20)]⟩,
   ⟨(some 18), none, .move (.t 21)⟩,
   ⟨(some 22), none, .extract (.t 18) 0⟩,
   ⟨(some 23), none, .extract (.t 18) 1⟩,
   ⟨(some 24), none, .extract (.t 18) 2⟩,
   ⟨(some 9), none, .move (.t 22)⟩,
   ⟨(some 10), none, .move (.t 23)⟩,
   ⟨(some 11), none, .move (.t 24)⟩] (some [0, 1, 2, 9, 10, 11]))
 (.seq (.ops [⟨(some 25), none, .move (.t 11)⟩] (some [0, 1, 2, 9, 10, 25]))
 (.cond (.t 25)
  (.seq (.ops [⟨(some 26), none, .move (.t 9)⟩,
    ⟨(some 27), none, .nilCheck (.t 26)⟩,
    ⟨(some 28), none, .fieldAddr 1 (.t 27)⟩,
    ⟨(some 29), none, .load false 1 (.t 28)⟩,
    ⟨(some 30), none, .move (.t 10)⟩,
    ⟨(some 31), none, .indexAddr 1 (.t 29) (.t 30)⟩,
    ⟨(some 32), none, .load false 1 (.t 31)⟩,
    ⟨(some 12), none, .move (.t 32)⟩] (some [2, 9, 10, 12]))
  (.seq (.ops [⟨(some 33), none, .move (.t 9)⟩,
    ⟨(some 34), none, .nilCheck (.t 33)⟩,
    ⟨(some 35), none, .fieldAddr 1 (.t 34)⟩,
    ⟨(some 36), none, .load false 1 (.t 35)⟩,
    ⟨(some 37), none, .move (.t 10)⟩,
    ⟨(some 38), none, .move (.t 2)⟩,
    ⟨(some 39), none, .indexAddr 1 (.t 36) (.t 37)⟩,
    ⟨none, none, .store 1 (.t 39) (.t 38)⟩] (some [12]))
  (.seq (.ops [⟨(some 40), none, .move (.t 12)⟩,
    ⟨(some 6), none, .move (.t 40)⟩,
    ⟨(some 7), none, .move (.c (.bool true))⟩,
    ⟨(some 8), none, .move (.c (.int .i64 0))⟩] (some [6, 7, 8]))
  .ret)))
  .skip)))
 (.seq (.seq (.ops [⟨(some 41), none, .move (.t 0)⟩,
   ⟨(some 42), none, .nilCheck (.t 41)⟩,
   ⟨(some 43), none, .fieldAddr 3 (.t 42)⟩,
   ⟨(some 44), none, .load false 1 (.t 43)⟩,
   ⟨(some 45), none, .bin .geq 3 (.t 44) (.c (.int .i64 100000))⟩] (some [0, 1, 2, 45]))
 (.cond (.t 45)
  (.seq (.ops [⟨(some 6), none, .move (.c (.int .i64 0))⟩,
    ⟨(some 7), none, .move (.c (.bool false))⟩,
    ⟨(some 8), none, .move (.c (.int .i64 5))⟩] (some [6, 7, 8]))
  .ret)
  .skip))
 (.seq (.ops [⟨(some 46), none, .move (.t 0)⟩,
   ⟨(some 47), none, .nilCheck (.t 46)⟩,
   ⟨(some 48), none, .fieldAddr 3 (.t 47)⟩,
   ⟨(some 49), none, .load false 1 (.t 48)⟩,
   ⟨(some 50), none, .bin .add 3 (.t 49) (.c (.int .i64 1))⟩,
   ⟨(some 51), none, .nilCheck (.t 46)⟩,
   ⟨(some 52), none, .fieldAddr 3 (.t 51)⟩,
   ⟨none, none, .store 1 (.t 52) (.t 50)⟩] (some [0, 1, 2]))
 (.seq (.seq (.ops [⟨(some 53), none, .move (.t 0)⟩,
   ⟨(some 54), none, .nilCheck (.t 53)⟩,
   ⟨(some 55), none, .fieldAddr 2 (.t 54)⟩,
   ⟨(some 56), none, .load false 1 (.t 55)⟩,
   ⟨(some 57), none, .bin .lss 3 (.t 56) (.c (.int .i64 0))⟩] (some [0, 1, 2, 57]))
 (.cond (.t 57)
  (.seq (.ops [⟨(some 58), none, .move (.t 0)⟩,
    ⟨(some 59), none, .move (.t 0)⟩,
    ⟨(some 60), none, .move (.t 1)⟩,
    ⟨(some 61), none, .buildSlice [(.string .empty)] 1 1 [(0, (.t 60))]⟩,
    ⟨(some 62), none, .move (.t 2)⟩,
    ⟨(some 63), none, .buildSlice [(.int .i64 0)] 1 1 [(0, (.t 62))]⟩,
    ⟨(some 64), none, .build [(.slice none 0 0), (.slice none 0 0), (.slice none 0 0)] [(0, 1), (1, 1), (2, 1)] [(0, (.t 61)), (1, (.t 63))]⟩,
    ⟨(some 65), none, .call (.c (.func (.func 96) #[] #[])) [(.t 59), (.t 64)]⟩,
    ⟨(some 66), none, .nilCheck (.t 58)⟩,
    ⟨(some 67), none, .fieldAddr 2 (.t 66)⟩,
    ⟨none, none, .store 1 (.t 67) (.t 65)⟩] (some []))
  (.seq (.ops [⟨(some 6), none, .move (.c (.int .i64 0))⟩,
    ⟨(some 7), none, .move (.c (.bool false))⟩,
    ⟨(some 8), none, .move (.c (.int .i64 0))⟩] (some [6, 7, 8]))
  .ret))
  .skip))
 (.seq (.ops [⟨(some 68), none, .move (.t 0)⟩,
   ⟨(some 69), none, .move (.t 0)⟩,
   ⟨(some 70), none, .nilCheck (.t 69)⟩,
   ⟨(some 71), none, .fieldAddr 2 (.t 70)⟩,
   ⟨(some 72), none, .load false 1 (.t 71)⟩,
   ⟨(some 73), none, .move (.t 1)⟩,
   ⟨(some 74), none, .move (.t 2)⟩,
   ⟨(some 75), none, .call (.c (.func (.func 97) #[] #[])) [(.t 68), (.t 72), (.t 73), (.t 74)]⟩] (some [0]))
 (.seq (.seq (.opsd [(0, 0, ⟨(some 76), none, .move (.t 0)⟩),
   (1, 1, ⟨(some 77), none, .nilCheck (.t 76)⟩),
   (2, 3, ⟨(some 78), none, .fieldAddr 0 (.t 77)⟩),
   (3, 7, ⟨(some 79), none, .load false 1 (.t 78)⟩),
   (4, 0, ⟨(some 80), none, .move (.t 0)⟩),
   (5, 16, ⟨(some 81), none, .nilCheck (.t 80)⟩),
   (6, 48, ⟨(some 82), none, .fieldAddr 2 (.t 81)⟩),
   (7, 112, ⟨(some 83), none, .load false 1 (.t 82)⟩),
   (8, 255, ⟨(some 84), none, .indexAddr 3 (.t 79) (.t 83)⟩),
   (9, 511, ⟨(some 85), none, .call (.c (.func (.func 98) #[] #[])) [(.t 84)]⟩),
   (10, 1023, ⟨(some 86), none, .bin .gtr 3 (.t 85) (.c (.int .i64 4))⟩)] (some [0, 86]))
 (.cond (.t 86)
  (.seq (.ops [⟨(some 87), none, .move (.t 0)⟩,
    ⟨(some 88), none, .nilCheck (.t 87)⟩,
    ⟨(some 89), none, .fieldAddr 2 (.t 88)⟩,
    ⟨(some 90), none, .load false 1 (.t 89)⟩,
    ⟨(some 13), none, .move (.t 90)⟩] (some [0, 13]))
  (.seq (.ops [⟨(some 92), none, .move (.t 0)⟩,
    ⟨(some 93), none, .move (.t 13)⟩,
    ⟨(some 94), none, .call (.c (.func (.func 99) #[] #[])) [(.t 92), (.t 93)]⟩,
    ⟨(some 91), none, .move (.t 94)⟩,
    ⟨(some 95), none, .extract (.t 91) 0⟩,
    ⟨(some 96), none, .extract (.t 91) 1⟩,
    ⟨(some 14), none, .move (.t 95)⟩,
    ⟨(some 15), none, .move (.t 96)⟩] (some [0, 13, 14, 15]))
  (.ops [⟨(some 97), none, .move (.t 0)⟩,
    ⟨(some 98), none, .move (.t 0)⟩,
    ⟨(some 99), none, .move (.t 15)⟩,
    ⟨(some 100), none, .buildSlice [(.string .empty)] 1 1 [(0, (.t 99))]⟩,
    ⟨(some 101), none, .move (.t 13)⟩,
    ⟨(some 102), none, .move (.t 14)⟩,
    ⟨(some 103), none, .buildSlice [(.int .i64 0)] 1 2 [(0, (.t 101)), (1, (.t 102))]⟩,
    ⟨(some 104), none, .build [(.slice none 0 0), (.slice none 0 0), (.slice none 0 0)] [(0, 1), (1, 1), (2, 1)] [(0, (.t 100)), (2, (.t 103))]⟩,
    ⟨(some 105), none, .call (.c (.func (.func 96) #[] #[])) [(.t 98), (.t 104)]⟩,
    ⟨(some 106), none, .nilCheck (.t 97)⟩,
    ⟨(some 107), none, .fieldAddr 2 (.t 106)⟩,
    ⟨none, none, .store 1 (.t 107) (.t 105)⟩] (some []))))
  .skip))
 (.seq (.ops [⟨(some 6), none, .move (.c (.int .i64 0))⟩,
   ⟨(some 7), none, .move (.c (.bool false))⟩,
   ⟨(some 8), none, .move (.c (.int .i64 0))⟩] (some [6, 7, 8]))
 .ret))))))))), [.tmp 6, .tmp 7, .tmp 8]⟩

/-- slices.Clone[[]cloisonne/api.Version,cloisonne/api.Version] -/
def x69 : XDecl := .code ⟨1, 
 (.seq (.ops [⟨(some 2), none, .move (.c (.slice none 0 0))⟩] (some [0]))
 (.seq (.seq (.ops [⟨(some 3), none, .move (.t 0)⟩,
   ⟨(some 4), none, .isNil .slice false (.t 3)⟩] (some [0, 4]))
 (.cond (.t 4)
  (.seq (.ops [⟨(some 2), none, .move (.c (.slice none 0 0))⟩] (some [2]))
  .ret)
  .skip))
 (.seq (.ops [⟨(some 5), none, .buildSlice [(.int .i64 0), (.bool false), (.bool false), (.string .empty), (.int .u64 0)] 5 0 []⟩,
   ⟨(some 6), none, .move (.t 0)⟩,
   ⟨(some 7), none, .append 5 48 [(.int .i64 0), (.bool false), (.bool false), (.string .empty), (.int .u64 0)] (.t 5) (.t 6)⟩,
   ⟨(some 2), none, .move (.t 7)⟩] (some [2]))
 .ret))), [.tmp 2]⟩

-- 71 math.Float64bits: no body
def x71 : XDecl := .ext 71

/-- cloisonne/room.Right -/
def x77 : XDecl := .code ⟨1, 
 (.seq (.ops [⟨(some 1), none, .box (.t 0)⟩,
   ⟨(some 2), none, .move (.c (.bool false))⟩] (some [1]))
 (.seq (.ops [⟨(some 3), none, .fieldAddr 0 (.t 1)⟩,
   ⟨(some 4), none, .load false 1 (.t 3)⟩,
   ⟨(some 5), none, .call (.c (.func (.func 106) #[] #[])) [(.t 4)]⟩,
   ⟨(some 6), none, .move (.t 5)⟩,
   ⟨(some 7), (some (6, true)), .fieldAddr 1 (.t 1)⟩,
   ⟨(some 8), (some (6, true)), .load false 1 (.t 7)⟩,
   ⟨(some 9), (some (6, true)), .call (.c (.func (.func 39) #[] #[])) [(.t 8), (.c (.int .i64 1)), (.c (.int .i64 16))]⟩,
   ⟨(some 10), none, .pick (.t 6) (.t 9) (.c (.bool false))⟩,
   ⟨(some 11), none, .move (.t 10)⟩,
   ⟨(some 12), (some (11, true)), .fieldAddr 2 (.t 1)⟩,
   ⟨(some 13), (some (11, true)), .load false 1 (.t 12)⟩,
   ⟨(some 14), (some (11, true)), .call (.c (.func (.func 39) #[] #[])) [(.t 13), (.c (.int .i64 0)), (.c (.int .i64 1048576))]⟩,
   ⟨(some 15), none, .pick (.t 11) (.t 14) (.c (.bool false))⟩,
   ⟨(some 16), none, .move (.t 15)⟩,
   ⟨(some 17), (some (16, true)), .fieldAddr 3 (.t 1)⟩,
   ⟨(some 18), (some (16, true)), .load false 1 (.t 17)⟩,
   ⟨(some 19), (some (16, true)), .call (.c (.func (.func 39) #[] #[])) [(.t 18), (.c (.int .i64 1)), (.c (.int .i64 1073741824))]⟩,
   ⟨(some 20), none, .pick (.t 16) (.t 19) (.c (.bool false))⟩,
   ⟨(some 2), none, .move (.t 20)⟩] (some [2]))
 .ret)), [.tmp 2]⟩

/-- cloisonne/ring.New -/
def x78 : XDecl := .code ⟨2, 
 (.seq (.ops [⟨(some 4), none, .move (.c (.pointer none))⟩,
   ⟨(some 5), none, .move (.c (.int .i64 0))⟩] (some [0, 1]))
 (.seq (.seq (.ops [⟨(some 6), none, .move (.t 0)⟩,
   ⟨(some 7), none, .bin .lss 3 (.t 6) (.c (.int .i64 1))⟩,
   ⟨(some 8), none, .move (.t 7)⟩,
   ⟨(some 9), (some (8, false)), .move (.t 0)⟩,
   ⟨(some 10), (some (8, false)), .bin .gtr 3 (.t 9) (.c (.int .i64 16))⟩,
   ⟨(some 11), none, .pick (.t 8) (.c (.bool true)) (.t 10)⟩,
   ⟨(some 12), none, .move (.t 11)⟩,
   ⟨(some 13), (some (12, false)), .move (.t 1)⟩,
   ⟨(some 14), (some (12, false)), .bin .lss 3 (.t 13) (.c (.int .i64 0))⟩,
   ⟨(some 15), none, .pick (.t 12) (.c (.bool true)) (.t 14)⟩,
   ⟨(some 16), none, .move (.t 15)⟩,
   ⟨(some 17), (some (16, false)), .move (.t 1)⟩,
   ⟨(some 18), (some (16, false)), .bin .gtr 3 (.t 17) (.c (.int .i64 1073741824))⟩,
   ⟨(some 19), none, .pick (.t 16) (.c (.bool true)) (.t 18)⟩] (some [0, 1, 19]))
 (.cond (.t 19)
  (.seq (.ops [⟨(some 4), none, .move (.c (.pointer none))⟩,
    ⟨(some 5), none, .move (.c (.int .i64 1))⟩] (some [4, 5]))
  .ret)
  .skip))
 (.seq (.ops [⟨(some 20), none, .move (.t 0)⟩,
   ⟨(some 21), none, .move (.t 1)⟩,
   ⟨(some 22), none, .move (.t 1)⟩,
   ⟨(some 23), none, .build [(.int .i64 0), (.int .i64 0), (.int .i64 0), (.slice none 0 0)] [(0, 1), (1, 1), (2, 1), (3, 1)] [(0, (.t 20)), (1, (.t 21)), (2, (.t 22))]⟩,
   ⟨(some 24), none, .box (.t 23)⟩,
   ⟨(some 4), none, .move (.t 24)⟩,
   ⟨(some 5), none, .move (.c (.int .i64 0))⟩] (some [4, 5]))
 .ret))), [.tmp 4, .tmp 5]⟩

/-- cloisonne/tree.New -/
def x79 : XDecl := .code ⟨0, 
 (.seq (.ops [⟨(some 0), none, .move (.c (.pointer none))⟩] (some []))
 (.seq (.ops [⟨(some 1), none, .build [(.slice none 0 0), (.slice none 0 0), (.int .i64 0), (.int .i64 0)] [(0, 1), (1, 1), (2, 1), (3, 1)] [(2, (.c (.int .i64 (-1))))]⟩,
   ⟨(some 2), none, .box (.t 1)⟩,
   ⟨(some 0), none, .move (.t 2)⟩] (some [0]))
 .ret)), [.tmp 0]⟩

/-- cmp.Less[uint64] -/
def x80 : XDecl := .code ⟨2, 
 (.seq (.ops [⟨(some 4), none, .move (.c (.bool false))⟩] (some [0, 1]))
 (.seq (.ops [⟨(some 5), none, .move (.t 0)⟩,
   ⟨(some 6), none, .call (.c (.func (.func 107) #[] #[])) [(.t 5)]⟩,
   ⟨(some 7), none, .move (.t 6)⟩,
   ⟨(some 8), (some (7, true)), .move (.t 1)⟩,
   ⟨(some 9), (some (7, true)), .call (.c (.func (.func 107) #[] #[])) [(.t 8)]⟩,
   ⟨(some 10), (some (7, true)), .un .not (.t 9)⟩,
   ⟨(some 11), none, .pick (.t 7) (.t 10) (.c (.bool false))⟩,
   ⟨(some 12), none, .move (.t 11)⟩,
   ⟨(some 13), (some (12, false)), .move (.t 0)⟩,
   ⟨(some 14), (some (12, false)), .move (.t 1)⟩,
   ⟨(some 15), (some (12, false)), .bin .lss 25 (.t 13) (.t 14)⟩,
   ⟨(some 16), none, .pick (.t 12) (.c (.bool true)) (.t 15)⟩,
   ⟨(some 4), none, .move (.t 16)⟩] (some [4]))
 .ret)), [.tmp 4]⟩

/-- slices.isNaN[uint64] -/
def x81 : XDecl := .code ⟨1, 
 (.seq (.ops [⟨(some 2), none, .move (.c (.bool false))⟩] (some [0]))
 (.seq (.ops [⟨(some 3), none, .move (.t 0)⟩,
   ⟨(some 4), none, .move (.t 0)⟩,
   ⟨(some 5), none, .bin .neq 25 (.t 3) (.t 4)⟩,
   ⟨(some 2), none, .move (.t 5)⟩] (some [2]))
 .ret)), [.tmp 2]⟩

/-- cloisonne/chain.right -/
def x82 : XDecl := .code ⟨1, 
 (.seq (.ops [⟨(some 1), none, .box (.t 0)⟩,
   ⟨(some 2), none, .move (.c (.bool false))⟩] (some [1]))
 (.seq (.ops [⟨(some 3), none, .fieldAddr 0 (.t 1)⟩,
   ⟨(some 4), none, .load false 1 (.t 3)⟩,
   ⟨(some 5), none, .bin .geq 3 (.t 4) (.c (.int .i64 1))⟩,
   ⟨(some 6), none, .move (.t 5)⟩,
   ⟨(some 7), (some (6, true)), .fieldAddr 0 (.t 1)⟩,
   ⟨(some 8), (some (6, true)), .load false 1 (.t 7)⟩,
   ⟨(some 9), (some (6, true)), .bin .leq 3 (.t 8) (.c (.int .i64 1073741824))⟩,
   ⟨(some 10), none, .pick (.t 6) (.t 9) (.c (.bool false))⟩,
   ⟨(some 11), none, .move (.t 10)⟩,
   ⟨(some 12), (some (11, true)), .fieldAddr 2 (.t 1)⟩,
   ⟨(some 13), (some (11, true)), .load true 3 (.t 12)⟩,
   ⟨(some 14), (some (11, true)), .call (.c (.func (.func 59) #[] #[])) [(.t 13)]⟩,
   ⟨(some 15), none, .pick (.t 11) (.t 14) (.c (.bool false))⟩,
   ⟨(some 16), none, .move (.t 15)⟩,
   ⟨(some 17), (some (16, true)), .fieldAddr 1 (.t 1)⟩,
   ⟨(some 18), (some (16, true)), .load false 1 (.t 17)⟩,
   ⟨(some 19), (some (16, true)), .un .not (.t 18)⟩,
   ⟨(some 20), (some (16, true)), .move (.t 19)⟩,
   ⟨(some 21), (some (20, false)), .fieldAddr 2 (.t 1)⟩,
   ⟨(some 22), (some (20, false)), .load true 3 (.t 21)⟩,
   ⟨(some 23), (some (20, false)), .build [(.bool false), (.string .empty), (.int .u64 0)] [(0, 1), (1, 1), (2, 1)] []⟩,
   ⟨(some 24), (some (20, false)), .bin .eql 32 (.t 22) (.t 23)⟩,
   ⟨(some 25), (some (16, true)), .pick (.t 20) (.c (.bool true)) (.t 24)⟩,
   ⟨(some 26), none, .pick (.t 16) (.t 25) (.c (.bool false))⟩,
   ⟨(some 2), none, .move (.t 26)⟩] (some [2]))
 .ret)), [.tmp 2]⟩

/-- slices.BinarySearchFunc[[]cloisonne/api.Version,cloisonne/api.Version,int] -/
def x83 : XDecl := .code ⟨3, 
 (.seq (.ops [⟨(some 6), none, .move (.c (.int .i64 0))⟩,
   ⟨(some 7), none, .move (.c (.bool false))⟩] (some [0, 1, 2]))
 (.seq (.ops [⟨(some 12), none, .move (.t 0)⟩,
   ⟨(some 13), none, .len (.t 12)⟩,
   ⟨(some 8), none, .move (.t 13)⟩] (some [0, 1, 2, 8]))
 (.seq (.ops [⟨(some 14), none, .move (.t 8)⟩,
   ⟨(some 9), none, .move (.c (.int .i64 0))⟩,
   ⟨(some 10), none, .move (.t 14)⟩] (some [0, 1, 2, 8, 9, 10]))
 (.seq (.block 0
  (.loop
   (.seq (.seq (.ops [⟨(some 15), none, .move (.t 9)⟩,
     ⟨(some 16), none, .move (.t 10)⟩,
     ⟨(some 17), none, .bin .lss 3 (.t 15) (.t 16)⟩] (some [0, 1, 2, 8, 9, 10, 17]))
   (.cond (.t 17)
    .skip
    (.exit 0)))
   (.block 1
    (.seq (.ops [⟨(some 18), none, .move (.t 9)⟩,
      ⟨(some 19), none, .move (.t 10)⟩,
      ⟨(some 20), none, .bin .add 3 (.t 18) (.t 19)⟩,
      ⟨(some 21), none, .conv 3 136 (.t 20)⟩,
      ⟨(some 22), none, .bin .shr 136 (.t 21) (.c (.int .u64 1))⟩,
      ⟨(some 23), none, .conv 136 3 (.t 22)⟩,
      ⟨(some 11), none, .move (.t 23)⟩] (some [0, 1, 2, 8, 9, 10, 11]))
    (.seq (.ops [⟨(some 24), none, .move (.t 2)⟩,
      ⟨(some 25), none, .move (.t 0)⟩,
      ⟨(some 26), none, .move (.t 11)⟩,
      ⟨(some 27), none, .indexAddr 5 (.t 25) (.t 26)⟩,
      ⟨(some 28), none, .load true 5 (.t 27)⟩,
      ⟨(some 29), none, .move (.t 1)⟩,
      ⟨(some 30), none, .call (.t 24) [(.t 28), (.t 29)]⟩,
      ⟨(some 31), none, .bin .lss 3 (.t 30) (.c (.int .i64 0))⟩] (some [0, 1, 2, 8, 9, 10, 11, 31]))
    (.cond (.t 31)
     (.ops [⟨(some 32), none, .move (.t 11)⟩,
       ⟨(some 33), none, .bin .add 3 (.t 32) (.c (.int .i64 1))⟩,
       ⟨(some 9), none, .move (.t 33)⟩] (some [0, 1, 2, 8, 9, 10]))
     (.ops [⟨(some 34), none, .move (.t 11)⟩,
       ⟨(some 10), none, .move (.t 34)⟩] (some [0, 1, 2, 8, 9, 10])))))))))
 (.seq (.ops [⟨(some 35), none, .move (.t 9)⟩,
   ⟨(some 36), none, .move (.t 9)⟩,
   ⟨(some 37), none, .move (.t 8)⟩,
   ⟨(some 38), none, .bin .lss 3 (.t 36) (.t 37)⟩,
   ⟨(some 39), none, .move (.t 38)⟩,
   ⟨(some 40), (some (39, true)), .move (.t 2)⟩,
   ⟨(some 41), (some (39, true)), .move (.t 0)⟩,
   ⟨(some 42), (some (39, true)), .move (.t 9)⟩,
   ⟨(some 43), (some (39, true)), .indexAddr 5 (.t 41) (.t 42)⟩,
   ⟨(some 44), (some (39, true)), .load true 5 (.t 43)⟩,
   ⟨(some 45), (some (39, true)), .move (.t 1)⟩,
   ⟨(some 46), (some (39, true)), .call (.t 40) [(.t 44), (.t 45)]⟩,
   ⟨(some 47), (some (39, true)), .bin .eql 3 (.t 46) (.c (.int .i64 0))⟩,
   ⟨(some 48), none, .pick (.t 39) (.t 47) (.c (.bool false))⟩,
   ⟨(some 6), none, .move (.t 35)⟩,
   ⟨(some 7), none, .move (.t 48)⟩] (some [6, 7]))
 .ret))))), [.tmp 6, .tmp 7]⟩

/-- cloisonne/chain.behind$1 -/
def x84 : XDecl := .code ⟨2, 
 (.seq (.ops [⟨(some 2), none, .box (.t 0)⟩,
   ⟨(some 4), none, .move (.c (.int .i64 0))⟩] (some [1, 2]))
 (.seq (.ops [⟨(some 5), none, .fieldAddr 0 (.t 2)⟩,
   ⟨(some 6), none, .load false 1 (.t 5)⟩,
   ⟨(some 7), none, .move (.t 1)⟩,
   ⟨(some 8), none, .bin .sub 3 (.t 6) (.t 7)⟩,
   ⟨(some 4), none, .move (.t 8)⟩] (some [4]))
 .ret)), [.tmp 4]⟩

/-- (*cloisonne/tree.Tree).find -/
def x85 : XDecl := .code ⟨2, 
 (.seq (.ops [⟨(some 4), none, .move (.c (.pointer none))⟩,
   ⟨(some 5), none, .move (.c (.int .i64 0))⟩,
   ⟨(some 6), none, .move (.c (.bool false))⟩] (some [0, 1]))
 (.seq (.seq (.ops [⟨(some 10), none, .move (.t 0)⟩,
   ⟨(some 11), none, .isNil .ptr false (.t 10)⟩,
   ⟨(some 12), none, .move (.t 11)⟩,
   ⟨(some 13), (some (12, false)), .move (.t 0)⟩,
   ⟨(some 14), (some (12, false)), .nilCheck (.t 13)⟩,
   ⟨(some 15), (some (12, false)), .fieldAddr 2 (.t 14)⟩,
   ⟨(some 16), (some (12, false)), .load false 1 (.t 15)⟩,
   ⟨(some 17), (some (12, false)), .bin .lss 3 (.t 16) (.c (.int .i64 0))⟩,
   ⟨(some 18), none, .pick (.t 12) (.c (.bool true)) (.t 17)⟩] (some [0, 1, 18]))
 (.cond (.t 18)
  (.seq (.ops [⟨(some 4), none, .move (.c (.pointer none))⟩,
    ⟨(some 5), none, .move (.c (.int .i64 0))⟩,
    ⟨(some 6), none, .move (.c (.bool false))⟩] (some [4, 5, 6]))
  .ret)
  .skip))
 (.seq (.opsr [⟨(some 19), none, .move (.t 0)⟩,
   ⟨(some 20), none, .nilCheck (.t 19)⟩,
   ⟨(some 21), none, .fieldAddr 0 (.t 20)⟩,
   ⟨(some 22), none, .load false 1 (.t 21)⟩,
   ⟨(some 23), none, .move (.t 0)⟩,
   ⟨(some 24), none, .nilCheck (.t 23)⟩,
   ⟨(some 25), none, .fieldAddr 2 (.t 24)⟩,
   ⟨(some 26), none, .load false 1 (.t 25)⟩,
   ⟨(some 27), none, .indexAddr 3 (.t 22) (.t 26)⟩,
   ⟨(some 7), none, .move (.t 27)⟩] (some [0, 1, 7]))
 (.seq (.block 0
  (.loop
   (.seq (.seq (.ops [⟨(some 28), none, .move (.t 7)⟩,
     ⟨(some 29), none, .call (.c (.func (.func 86) #[] #[])) [(.t 28)]⟩,
     ⟨(some 30), none, .un .not (.t 29)⟩] (some [0, 1, 7, 30]))
   (.cond (.t 30)
    .skip
    (.exit 0)))
   (.block 1
    (.opsd [(0, 0, ⟨(some 31), none, .move (.t 0)⟩),
      (1, 1, ⟨(some 32), none, .nilCheck (.t 31)⟩),
      (2, 3, ⟨(some 33), none, .fieldAddr 0 (.t 32)⟩),
      (3, 7, ⟨(some 34), none, .load false 1 (.t 33)⟩),
      (4, 0, ⟨(some 35), none, .move (.t 7)⟩),
      (5, 16, ⟨(some 36), none, .nilCheck (.t 35)⟩),
      (6, 48, ⟨(some 37), none, .fieldAddr 2 (.t 36)⟩),
      (7, 112, ⟨(some 38), none, .load false 1 (.t 37)⟩),
      (8, 0, ⟨(some 39), none, .move (.t 7)⟩),
      (9, 0, ⟨(some 40), none, .move (.t 1)⟩),
      (10, 768, ⟨(some 41), none, .call (.c (.func (.func 88) #[] #[])) [(.t 39), (.t 40)]⟩),
      (11, 2032, ⟨(some 42), none, .indexAddr 1 (.t 38) (.t 41)⟩),
      (12, 4080, ⟨(some 43), none, .load false 1 (.t 42)⟩),
      (13, 8191, ⟨(some 44), none, .indexAddr 3 (.t 34) (.t 43)⟩),
      (14, 16383, ⟨(some 7), none, .move (.t 44)⟩)] (some [0, 1, 7]))))))
 (.seq (.ops [⟨(some 46), none, .move (.t 7)⟩,
   ⟨(some 47), none, .nilCheck (.t 46)⟩,
   ⟨(some 48), none, .fieldAddr 0 (.t 47)⟩,
   ⟨(some 49), none, .load false 1 (.t 48)⟩,
   ⟨(some 50), none, .move (.t 1)⟩,
   ⟨(some 51), none, .call (.c (.func (.func 87) #[] #[])) [(.t 49), (.t 50)]⟩,
   ⟨(some 45), none, .move (.t 51)⟩,
   ⟨(some 52), none, .extract (.t 45) 0⟩,
   ⟨(some 53), none, .extract (.t 45) 1⟩,
   ⟨(some 8), none, .move (.t 52)⟩,
   ⟨(some 9), none, .move (.t 53)⟩] (some [7, 8, 9]))
 (.seq (.ops [⟨(some 54), none, .move (.t 7)⟩,
   ⟨(some 55), none, .move (.t 8)⟩,
   ⟨(some 56), none, .move (.t 9)⟩,
   ⟨(some 4), none, .move (.t 54)⟩,
   ⟨(some 5), none, .move (.t 55)⟩,
   ⟨(some 6), none, .move (.t 56)⟩] (some [4, 5, 6]))
 .ret)))))), [.tmp 4, .tmp 5, .tmp 6]⟩

/-- (*cloisonne/tree.node).leaf -/
def x86 : XDecl := .code ⟨1, 
 (.seq (.ops [⟨(some 2), none, .move (.c (.bool false))⟩] (some [0]))
 (.seq (.ops [⟨(some 3), none, .move (.t 0)⟩,
   ⟨(some 4), none, .nilCheck (.t 3)⟩,
   ⟨(some 5), none, .fieldAddr 2 (.t 4)⟩,
   ⟨(some 6), none, .load false 1 (.t 5)⟩,
   ⟨(some 7), none, .len (.t 6)⟩,
   ⟨(some 8), none, .bin .eql 3 (.t 7) (.c (.int .i64 0))⟩,
   ⟨(some 2), none, .move (.t 8)⟩] (some [2]))
 .ret)), [.tmp 2]⟩

/-- slices.BinarySearch[[]string,string] -/
def x87 : XDecl := .code ⟨2, 
 (.seq (.ops [⟨(some 4), none, .move (.c (.int .i64 0))⟩,
   ⟨(some 5), none, .move (.c (.bool false))⟩] (some [0, 1]))
 (.seq (.ops [⟨(some 10), none, .move (.t 0)⟩,
   ⟨(some 11), none, .len (.t 10)⟩,
   ⟨(some 6), none, .move (.t 11)⟩] (some [0, 1, 6]))
 (.seq (.ops [⟨(some 12), none, .move (.t 6)⟩,
   ⟨(some 7), none, .move (.c (.int .i64 0))⟩,
   ⟨(some 8), none, .move (.t 12)⟩] (some [0, 1, 6, 7, 8]))
 (.seq (.block 0
  (.loop
   (.seq (.seq (.ops [⟨(some 13), none, .move (.t 7)⟩,
     ⟨(some 14), none, .move (.t 8)⟩,
     ⟨(some 15), none, .bin .lss 3 (.t 13) (.t 14)⟩] (some [0, 1, 6, 7, 8, 15]))
   (.cond (.t 15)
    .skip
    (.exit 0)))
   (.block 1
    (.seq (.ops [⟨(some 16), none, .move (.t 7)⟩,
      ⟨(some 17), none, .move (.t 8)⟩,
      ⟨(some 18), none, .bin .add 3 (.t 16) (.t 17)⟩,
      ⟨(some 19), none, .conv 3 136 (.t 18)⟩,
      ⟨(some 20), none, .bin .shr 136 (.t 19) (.c (.int .u64 1))⟩,
      ⟨(some 21), none, .conv 136 3 (.t 20)⟩,
      ⟨(some 9), none, .move (.t 21)⟩] (some [0, 1, 6, 7, 8, 9]))
    (.seq (.ops [⟨(some 22), none, .move (.t 0)⟩,
      ⟨(some 23), none, .move (.t 9)⟩,
      ⟨(some 24), none, .indexAddr 1 (.t 22) (.t 23)⟩,
      ⟨(some 25), none, .load false 1 (.t 24)⟩,
      ⟨(some 26), none, .move (.t 1)⟩,
      ⟨(some 27), none, .call (.c (.func (.func 108) #[] #[])) [(.t 25), (.t 26)]⟩] (some [0, 1, 6, 7, 8, 9, 27]))
    (.cond (.t 27)
     (.ops [⟨(some 28), none, .move (.t 9)⟩,
       ⟨(some 29), none, .bin .add 3 (.t 28) (.c (.int .i64 1))⟩,
       ⟨(some 7), none, .move (.t 29)⟩] (some [0, 1, 6, 7, 8]))
     (.ops [⟨(some 30), none, .move (.t 9)⟩,
       ⟨(some 8), none, .move (.t 30)⟩] (some [0, 1, 6, 7, 8])))))))))
 (.seq (.ops [⟨(some 31), none, .move (.t 7)⟩,
   ⟨(some 32), none, .move (.t 7)⟩,
   ⟨(some 33), none, .move (.t 6)⟩,
   ⟨(some 34), none, .bin .lss 3 (.t 32) (.t 33)⟩,
   ⟨(some 35), none, .move (.t 34)⟩,
   ⟨(some 36), (some (35, true)), .move (.t 0)⟩,
   ⟨(some 37), (some (35, true)), .move (.t 7)⟩,
   ⟨(some 38), (some (35, true)), .indexAddr 1 (.t 36) (.t 37)⟩,
   ⟨(some 39), (some (35, true)), .load false 1 (.t 38)⟩,
   ⟨(some 40), (some (35, true)), .move (.t 1)⟩,
   ⟨(some 41), (some (35, true)), .bin .eql 9 (.t 39) (.t 40)⟩,
   ⟨(some 42), (some (35, true)), .move (.t 41)⟩,
   ⟨(some 43), (some (42, false)), .move (.t 0)⟩,
   ⟨(some 44), (some (42, false)), .move (.t 7)⟩,
   ⟨(some 45), (some (42, false)), .indexAddr 1 (.t 43) (.t 44)⟩,
   ⟨(some 46), (some (42, false)), .load false 1 (.t 45)⟩,
   ⟨(some 47), (some (42, false)), .call (.c (.func (.func 109) #[] #[])) [(.t 46)]⟩,
   ⟨(some 48), (some (42, false)), .move (.t 47)⟩,
   ⟨(some 49), (some (48, true)), .move (.t 1)⟩,
   ⟨(some 50), (some (48, true)), .call (.c (.func (.func 109) #[] #[])) [(.t 49)]⟩,
   ⟨(some 51), (some (42, false)), .pick (.t 48) (.t 50) (.c (.bool false))⟩,
   ⟨(some 52), (some (35, true)), .pick (.t 42) (.c (.bool true)) (.t 51)⟩,
   ⟨(some 53), none, .pick (.t 35) (.t 52) (.c (.bool false))⟩,
   ⟨(some 4), none, .move (.t 31)⟩,
   ⟨(some 5), none, .move (.t 53)⟩] (some [4, 5]))
 .ret))))), [.tmp 4, .tmp 5]⟩

/-- (*cloisonne/tree.node).way -/
def x88 : XDecl := .code ⟨2, 
 (.seq (.ops [⟨(some 4), none, .move (.c (.int .i64 0))⟩] (some [0, 1]))
 (.seq (.ops [⟨(some 8), none, .move (.t 0)⟩,
   ⟨(some 9), none, .nilCheck (.t 8)⟩,
   ⟨(some 10), none, .fieldAddr 0 (.t 9)⟩,
   ⟨(some 11), none, .load false 1 (.t 10)⟩,
   ⟨(some 12), none, .move (.t 1)⟩,
   ⟨(some 13), none, .call (.c (.func (.func 87) #[] #[])) [(.t 11), (.t 12)]⟩,
   ⟨(some 7), none, .move (.t 13)⟩,
   ⟨(some 14), none, .extract (.t 7) 0⟩,
   ⟨(some 15), none, .extract (.t 7) 1⟩,
   ⟨(some 5), none, .move (.t 14)⟩,
   ⟨(some 6), none, .move (.t 15)⟩] (some [5, 6]))
 (.seq (.seq (.ops [⟨(some 16), none, .move (.t 6)⟩] (some [5, 16]))
 (.cond (.t 16)
  (.ops [⟨(some 17), none, .move (.t 5)⟩,
    ⟨(some 18), none, .bin .add 3 (.t 17) (.c (.int .i64 1))⟩,
    ⟨(some 5), none, .move (.t 18)⟩] (some [5]))
  .skip))
 (.seq (.ops [⟨(some 19), none, .move (.t 5)⟩,
   ⟨(some 4), none, .move (.t 19)⟩] (some [4]))
 .ret)))), [.tmp 4]⟩

/-- (*cloisonne/tree.Tree).edge -/
def x89 : XDecl := .code ⟨3, 
 (.seq (.ops [⟨(some 6), none, .move (.c (.string .empty))⟩,
   ⟨(some 7), none, .move (.c (.int .i64 0))⟩,
   ⟨(some 8), none, .move (.c (.bool false))⟩] (some [0, 1, 2]))
 (.seq (.ops [⟨(some 12), none, .move (.t 0)⟩,
   ⟨(some 13), none, .nilCheck (.t 12)⟩,
   ⟨(some 14), none, .fieldAddr 0 (.t 13)⟩,
   ⟨(some 15), none, .load false 1 (.t 14)⟩,
   ⟨(some 16), none, .move (.t 1)⟩,
   ⟨(some 17), none, .indexAddr 3 (.t 15) (.t 16)⟩,
   ⟨(some 9), none, .move (.t 17)⟩] (some [0, 2, 9]))
 (.seq (.block 0
  (.loop
   (.seq (.seq (.ops [⟨(some 18), none, .move (.t 9)⟩,
     ⟨(some 19), none, .call (.c (.func (.func 86) #[] #[])) [(.t 18)]⟩,
     ⟨(some 20), none, .un .not (.t 19)⟩] (some [0, 2, 9, 20]))
   (.cond (.t 20)
    .skip
    (.exit 0)))
   (.block 1
    (.seq (.ops [⟨(some 10), none, .move (.c (.int .i64 0))⟩] (some [0, 2, 9, 10]))
    (.seq (.seq (.ops [⟨(some 21), none, .move (.t 2)⟩] (some [0, 2, 9, 10, 21]))
    (.cond (.t 21)
     (.ops [⟨(some 22), none, .move (.t 9)⟩,
       ⟨(some 23), none, .nilCheck (.t 22)⟩,
       ⟨(some 24), none, .fieldAddr 2 (.t 23)⟩,
       ⟨(some 25), none, .load false 1 (.t 24)⟩,
       ⟨(some 26), none, .len (.t 25)⟩,
       ⟨(some 27), none, .bin .sub 3 (.t 26) (.c (.int .i64 1))⟩,
       ⟨(some 10), none, .move (.t 27)⟩] (some [0, 2, 9, 10]))
     .skip))
    (.opsr [⟨(some 28), none, .move (.t 0)⟩,
      ⟨(some 29), none, .nilCheck (.t 28)⟩,
      ⟨(some 30), none, .fieldAddr 0 (.t 29)⟩,
      ⟨(some 31), none, .load false 1 (.t 30)⟩,
      ⟨(some 32), none, .move (.t 9)⟩,
      ⟨(some 33), none, .nilCheck (.t 32)⟩,
      ⟨(some 34), none, .fieldAddr 2 (.t 33)⟩,
      ⟨(some 35), none, .load false 1 (.t 34)⟩,
      ⟨(some 36), none, .move (.t 10)⟩,
      ⟨(some 37), none, .indexAddr 1 (.t 35) (.t 36)⟩,
      ⟨(some 38), none, .load false 1 (.t 37)⟩,
      ⟨(some 39), none, .indexAddr 3 (.t 31) (.t 38)⟩,
      ⟨(some 9), none, .move (.t 39)⟩] (some [0, 2, 9]))))))))
 (.seq (.ops [⟨(some 11), none, .move (.c (.int .i64 0))⟩] (some [2, 9, 11]))
 (.seq (.seq (.ops [⟨(some 40), none, .move (.t 2)⟩] (some [9, 11, 40]))
 (.cond (.t 40)
  (.ops [⟨(some 41), none, .move (.t 9)⟩,
    ⟨(some 42), none, .nilCheck (.t 41)⟩,
    ⟨(some 43), none, .fieldAddr 0 (.t 42)⟩,
    ⟨(some 44), none, .load false 1 (.t 43)⟩,
    ⟨(some 45), none, .len (.t 44)⟩,
    ⟨(some 46), none, .bin .sub 3 (.t 45) (.c (.int .i64 1))⟩,
    ⟨(some 11), none, .move (.t 46)⟩] (some [9, 11]))
  .skip))
 (.seq (.opsr [⟨(some 47), none, .move (.t 9)⟩,
   ⟨(some 48), none, .nilCheck (.t 47)⟩,
   ⟨(some 49), none, .fieldAddr 0 (.t 48)⟩,
   ⟨(some 50), none, .load false 1 (.t 49)⟩,
   ⟨(some 51), none, .move (.t 11)⟩,
   ⟨(some 52), none, .indexAddr 1 (.t 50) (.t 51)⟩,
   ⟨(some 53), none, .load false 1 (.t 52)⟩,
   ⟨(some 54), none, .move (.t 9)⟩,
   ⟨(some 55), none, .nilCheck (.t 54)⟩,
   ⟨(some 56), none, .fieldAddr 1 (.t 55)⟩,
   ⟨(some 57), none, .load false 1 (.t 56)⟩,
   ⟨(some 58), none, .move (.t 11)⟩,
   ⟨(some 59), none, .indexAddr 1 (.t 57) (.t 58)⟩,
   ⟨(some 60), none, .load false 1 (.t 59)⟩,
   ⟨(some 6), none, .move (.t 53)⟩,
   ⟨(some 7), none, .move (.t 60)⟩,
   ⟨(some 8), none, .move (.c (.bool true))⟩] (some [6, 7, 8]))
 .ret)))))), [.tmp 6, .tmp 7, .tmp 8]⟩

/-- cloisonne/num.Bits -/
def x90 : XDecl := .code ⟨1, 
 (.seq (.ops [⟨(some 2), none, .move (.c (.int .u64 0))⟩] (some [0]))
 (.seq (.seq (.ops [⟨(some 3), none, .move (.t 0)⟩,
   ⟨(some 4), none, .call (.c (.func (.func 110) #[] #[])) [(.t 3)]⟩] (some [0, 4]))
 (.cond (.t 4)
  (.seq (.ops [⟨(some 2), none, .move (.c (.int .u64 9221120237041090561))⟩] (some [2]))
  .ret)
  .skip))
 (.seq (.ops [⟨(some 5), none, .move (.t 0)⟩,
   ⟨(some 6), none, .call (.c (.func (.func 71) #[] #[])) [(.t 5)]⟩,
   ⟨(some 2), none, .move (.t 6)⟩] (some [2]))
 .ret))), [.tmp 2]⟩

/-- cloisonne/num.From -/
def x91 : XDecl := .code ⟨1, 
 (.seq (.ops [⟨(some 2), none, .move (.c (.float .f64 0))⟩] (some [0]))
 (.seq (.ops [⟨(some 3), none, .move (.t 0)⟩,
   ⟨(some 4), none, .call (.c (.func (.func 48) #[] #[])) [(.t 3)]⟩,
   ⟨(some 5), none, .call (.c (.func (.func 90) #[] #[])) [(.t 4)]⟩,
   ⟨(some 6), none, .call (.c (.func (.func 48) #[] #[])) [(.t 5)]⟩,
   ⟨(some 2), none, .move (.t 6)⟩] (some [2]))
 .ret)), [.tmp 2]⟩

/-- cloisonne/chain.Weight -/
def x92 : XDecl := .code ⟨1, 
 (.seq (.ops [⟨(some 2), none, .move (.c (.int .i64 0))⟩] (some [0]))
 (.seq (.ops [⟨(some 6), none, .move (.t 0)⟩,
   ⟨(some 7), none, .call (.c (.func (.func 40) #[] #[])) [(.t 6)]⟩,
   ⟨(some 5), none, .move (.t 7)⟩,
   ⟨(some 8), none, .extract (.t 5) 0⟩,
   ⟨(some 9), none, .extract (.t 5) 1⟩,
   ⟨(some 3), none, .alloc [(.int .i64 0), (.bool false), (.bool false), (.string .empty), (.int .u64 0)]⟩,
   ⟨none, none, .store 5 (.t 3) (.t 8)⟩,
   ⟨(some 4), none, .move (.t 9)⟩] (some [3, 4]))
 (.seq (.seq (.ops [⟨(some 10), none, .move (.t 4)⟩,
   ⟨(some 11), none, .un .not (.t 10)⟩,
   ⟨(some 12), none, .move (.t 11)⟩,
   ⟨(some 13), (some (12, false)), .fieldAddr 1 (.t 3)⟩,
   ⟨(some 14), (some (12, false)), .load false 1 (.t 13)⟩,
   ⟨(some 15), none, .pick (.t 12) (.c (.bool true)) (.t 14)⟩] (some [3, 15]))
 (.cond (.t 15)
  (.seq (.ops [⟨(some 2), none, .move (.c (.int .i64 0))⟩] (some [2]))
  .ret)
  .skip))
 (.seq (.ops [⟨(some 16), none, .fieldAddr 2 (.t 3)⟩,
   ⟨(some 17), none, .load true 3 (.t 16)⟩,
   ⟨(some 18), none, .call (.c (.func (.func 61) #[] #[])) [(.t 17)]⟩,
   ⟨(some 2), none, .move (.t 18)⟩] (some [2]))
 .ret)))), [.tmp 2]⟩

/-- cloisonne/value.Pack -/
def x93 : XDecl := .code ⟨1, 
 (.seq (.ops [⟨(some 1), none, .box (.t 0)⟩,
   ⟨(some 2), none, .move (.c (.string .empty))⟩,
   ⟨(some 3), none, .move (.c (.int .i64 0))⟩] (some [1]))
 (.seq (.block 0
  (.seq (.ops [⟨(some 5), none, .load true 3 (.t 1)⟩,
    ⟨(some 6), none, .call (.c (.func (.func 59) #[] #[])) [(.t 5)]⟩,
    ⟨(some 7), none, .un .not (.t 6)⟩,
    ⟨(some 4), none, .move (.t 7)⟩] (some [1, 4]))
  (.cond (.t 4)
   (.seq (.ops [⟨(some 2), none, .move (.c (.string .empty))⟩,
     ⟨(some 3), none, .move (.c (.int .i64 1))⟩] (some [2, 3]))
   .ret)
   (.seq (.ops [⟨(some 9), none, .fieldAddr 0 (.t 1)⟩,
     ⟨(some 10), none, .load false 1 (.t 9)⟩,
     ⟨(some 8), none, .move (.t 10)⟩] (some [1, 8]))
   (.cond (.t 8)
    (.seq (.ops [⟨(some 11), none, .fieldAddr 2 (.t 1)⟩,
      ⟨(some 12), none, .load false 1 (.t 11)⟩,
      ⟨(some 13), none, .call (.c (.func (.func 91) #[] #[])) [(.t 12)]⟩,
      ⟨(some 14), none, .call (.c (.func (.func 111) #[] #[])) [(.t 13)]⟩,
      ⟨(some 15), none, .bin .add 9 (.c (.string ⟨#[1]⟩)) (.t 14)⟩,
      ⟨(some 2), none, .move (.t 15)⟩,
      ⟨(some 3), none, .move (.c (.int .i64 0))⟩] (some [2, 3]))
    .ret)
    .skip)))))
 (.seq (.ops [⟨(some 16), none, .fieldAddr 1 (.t 1)⟩,
   ⟨(some 17), none, .load false 1 (.t 16)⟩,
   ⟨(some 18), none, .bin .add 9 (.c (.string ⟨#[0]⟩)) (.t 17)⟩,
   ⟨(some 2), none, .move (.t 18)⟩,
   ⟨(some 3), none, .move (.c (.int .i64 0))⟩] (some [2, 3]))
 .ret))), [.tmp 2, .tmp 3]⟩

/-- (*cloisonne/tree.Tree).del -/
def x94 : XDecl := .code ⟨3, 
 (.seq (.ops [⟨(some 10), none, .move (.t 0)⟩,
   ⟨(some 11), none, .nilCheck (.t 10)⟩,
   ⟨(some 12), none, .fieldAddr 0 (.t 11)⟩,
   ⟨(some 13), none, .load false 1 (.t 12)⟩,
   ⟨(some 14), none, .move (.t 1)⟩,
   ⟨(some 15), none, .indexAddr 3 (.t 13) (.t 14)⟩,
   ⟨(some 6), none, .move (.t 15)⟩] (some [0, 2, 6]))
 (.seq (.seq (.ops [⟨(some 16), none, .move (.t 6)⟩,
   ⟨(some 17), none, .call (.c (.func (.func 86) #[] #[])) [(.t 16)]⟩] (some [0, 2, 6, 17]))
 (.cond (.t 17)
  (.seq (.ops [⟨(some 19), none, .move (.t 6)⟩,
    ⟨(some 20), none, .nilCheck (.t 19)⟩,
    ⟨(some 21), none, .fieldAddr 0 (.t 20)⟩,
    ⟨(some 22), none, .load false 1 (.t 21)⟩,
    ⟨(some 23), none, .move (.t 2)⟩,
    ⟨(some 24), none, .call (.c (.func (.func 87) #[] #[])) [(.t 22), (.t 23)]⟩,
    ⟨(some 18), none, .move (.t 24)⟩,
    ⟨(some 25), none, .extract (.t 18) 0⟩,
    ⟨(some 26), none, .extract (.t 18) 1⟩,
    ⟨(some 7), none, .move (.t 25)⟩,
    ⟨(some 8), none, .move (.t 26)⟩] (some [6, 7]))
  (.seq (.opsd [(0, 0, ⟨(some 27), none, .move (.t 6)⟩),
    (1, 0, ⟨(some 28), none, .move (.t 6)⟩),
    (2, 0, ⟨(some 29), none, .move (.t 6)⟩),
    (3, 4, ⟨(some 30), none, .nilCheck (.t 29)⟩),
    (4, 12, ⟨(some 31), none, .fieldAddr 0 (.t 30)⟩),
    (5, 28, ⟨(some 32), none, .load false 1 (.t 31)⟩),
    (6, 0, ⟨(some 33), none, .move (.t 7)⟩),
    (7, 0, ⟨(some 34), none, .move (.t 7)⟩),
    (8, 128, ⟨(some 35), none, .bin .add 3 (.t 34) (.c (.int .i64 1))⟩),
    (10, 0, ⟨(some 37), none, .move (.t 6)⟩),
    (11, 1024, ⟨(some 38), none, .nilCheck (.t 37)⟩),
    (12, 3072, ⟨(some 39), none, .fieldAddr 1 (.t 38)⟩),
    (13, 7168, ⟨(some 40), none, .load false 1 (.t 39)⟩),
    (14, 0, ⟨(some 41), none, .move (.t 7)⟩),
    (15, 0, ⟨(some 42), none, .move (.t 7)⟩),
    (16, 32768, ⟨(some 43), none, .bin .add 3 (.t 42) (.c (.int .i64 1))⟩),
    (9, 508, ⟨(some 36), none, .call (.c (.func (.func 112) #[] #[])) [(.t 32), (.t 33), (.t 35)]⟩),
    (17, 131068, ⟨(some 44), none, .call (.c (.func (.func 113) #[] #[])) [(.t 40), (.t 41), (.t 43)]⟩),
    (18, 262141, ⟨(some 45), none, .nilCheck (.t 27)⟩),
    (19, 524285, ⟨(some 46), none, .fieldAddr 0 (.t 45)⟩),
    (20, 1048573, ⟨none, none, .store 1 (.t 46) (.t 36)⟩),
    (21, 2097151, ⟨(some 47), none, .nilCheck (.t 28)⟩),
    (22, 4194303, ⟨(some 48), none, .fieldAddr 1 (.t 47)⟩),
    (23, 8388607, ⟨none, none, .store 1 (.t 48) (.t 44)⟩)] (some []))
  .ret))
  .skip))
 (.seq (.ops [⟨(some 49), none, .move (.t 6)⟩,
   ⟨(some 50), none, .move (.t 2)⟩,
   ⟨(some 51), none, .call (.c (.func (.func 88) #[] #[])) [(.t 49), (.t 50)]⟩,
   ⟨(some 9), none, .move (.t 51)⟩] (some [0, 2, 6, 9]))
 (.seq (.ops [⟨(some 52), none, .move (.t 0)⟩,
   ⟨(some 53), none, .move (.t 6)⟩,
   ⟨(some 54), none, .nilCheck (.t 53)⟩,
   ⟨(some 55), none, .fieldAddr 2 (.t 54)⟩,
   ⟨(some 56), none, .load false 1 (.t 55)⟩,
   ⟨(some 57), none, .move (.t 9)⟩,
   ⟨(some 58), none, .indexAddr 1 (.t 56) (.t 57)⟩,
   ⟨(some 59), none, .load false 1 (.t 58)⟩,
   ⟨(some 60), none, .move (.t 2)⟩,
   ⟨(some 61), none, .call (.c (.func (.func 94) #[] #[])) [(.t 52), (.t 59), (.t 60)]⟩] (some [0, 6, 9]))
 (.seq (.opsd [(0, 0, ⟨(some 62), none, .move (.t 0)⟩),
   (1, 1, ⟨(some 63), none, .nilCheck (.t 62)⟩),
   (2, 3, ⟨(some 64), none, .fieldAddr 0 (.t 63)⟩),
   (3, 7, ⟨(some 65), none, .load false 1 (.t 64)⟩),
   (4, 0, ⟨(some 66), none, .move (.t 6)⟩),
   (5, 16, ⟨(some 67), none, .nilCheck (.t 66)⟩),
   (6, 48, ⟨(some 68), none, .fieldAddr 2 (.t 67)⟩),
   (7, 112, ⟨(some 69), none, .load false 1 (.t 68)⟩),
   (8, 0, ⟨(some 70), none, .move (.t 9)⟩),
   (9, 496, ⟨(some 71), none, .indexAddr 1 (.t 69) (.t 70)⟩),
   (10, 1008, ⟨(some 72), none, .load false 1 (.t 71)⟩),
   (11, 2047, ⟨(some 73), none, .indexAddr 3 (.t 65) (.t 72)⟩),
   (12, 4095, ⟨(some 74), none, .call (.c (.func (.func 98) #[] #[])) [(.t 73)]⟩),
   (13, 8191, ⟨(some 75), none, .bin .lss 3 (.t 74) (.c (.int .i64 2))⟩)] (some [0, 6, 9, 75]))
 (.cond (.t 75)
  (.ops [⟨(some 76), none, .move (.t 0)⟩,
    ⟨(some 77), none, .move (.t 6)⟩,
    ⟨(some 78), none, .move (.t 9)⟩,
    ⟨(some 79), none, .calcB .max [3, 3] 3 [(.t 78), (.c (.int .i64 1))]⟩,
    ⟨(some 80), none, .call (.c (.func (.func 114) #[] #[])) [(.t 76), (.t 77), (.t 79)]⟩] (some []))
  .skip)))))), []⟩

/-- (*cloisonne/tree.Tree).drop -/
def x95 : XDecl := .code ⟨2, 
 (.seq (.ops [⟨(some 4), none, .move (.t 0)⟩,
   ⟨(some 5), none, .nilCheck (.t 4)⟩,
   ⟨(some 6), none, .fieldAddr 0 (.t 5)⟩,
   ⟨(some 7), none, .load false 1 (.t 6)⟩,
   ⟨(some 8), none, .move (.t 1)⟩,
   ⟨(some 9), none, .build [(.slice none 0 0), (.slice none 0 0), (.slice none 0 0)] [(0, 1), (1, 1), (2, 1)] []⟩,
   ⟨(some 10), none, .indexAddr 3 (.t 7) (.t 8)⟩,
   ⟨none, none, .store 3 (.t 10) (.t 9)⟩] (some [0, 1]))
 (.ops [⟨(some 11), none, .move (.t 0)⟩,
   ⟨(some 12), none, .move (.t 0)⟩,
   ⟨(some 13), none, .nilCheck (.t 12)⟩,
   ⟨(some 14), none, .fieldAddr 1 (.t 13)⟩,
   ⟨(some 15), none, .load false 1 (.t 14)⟩,
   ⟨(some 16), none, .move (.t 1)⟩,
   ⟨(some 17), none, .buildSlice [(.int .i64 0)] 1 1 [(0, (.t 16))]⟩,
   ⟨(some 18), none, .append 1 8 [(.int .i64 0)] (.t 15) (.t 17)⟩,
   ⟨(some 19), none, .nilCheck (.t 11)⟩,
   ⟨(some 20), none, .fieldAddr 1 (.t 19)⟩,
   ⟨none, none, .store 1 (.t 20) (.t 18)⟩] (some []))), []⟩

/-- (*cloisonne/tree.Tree).add -/
def x96 : XDecl := .code ⟨2, 
 (.seq (.ops [⟨(some 3), none, .box (.t 1)⟩,
   ⟨(some 4), none, .move (.c (.int .i64 0))⟩] (some [0, 3]))
 (.seq (.seq (.ops [⟨(some 7), none, .move (.t 0)⟩,
   ⟨(some 8), none, .nilCheck (.t 7)⟩,
   ⟨(some 9), none, .fieldAddr 1 (.t 8)⟩,
   ⟨(some 10), none, .load false 1 (.t 9)⟩,
   ⟨(some 11), none, .len (.t 10)⟩,
   ⟨(some 5), none, .move (.t 11)⟩] (some [0, 3, 5]))
 (.seq (.ops [⟨(some 12), none, .move (.t 5)⟩,
   ⟨(some 13), none, .bin .gtr 3 (.t 12) (.c (.int .i64 0))⟩] (some [0, 3, 5, 13]))
 (.cond (.t 13)
  (.seq (.ops [⟨(some 14), none, .move (.t 0)⟩,
    ⟨(some 15), none, .nilCheck (.t 14)⟩,
    ⟨(some 16), none, .fieldAddr 1 (.t 15)⟩,
    ⟨(some 17), none, .load false 1 (.t 16)⟩,
    ⟨(some 18), none, .move (.t 5)⟩,
    ⟨(some 19), none, .bin .sub 3 (.t 18) (.c (.int .i64 1))⟩,
    ⟨(some 20), none, .indexAddr 1 (.t 17) (.t 19)⟩,
    ⟨(some 21), none, .load false 1 (.t 20)⟩,
    ⟨(some 6), none, .move (.t 21)⟩] (some [0, 3, 5, 6]))
  (.seq (.ops [⟨(some 22), none, .move (.t 0)⟩,
    ⟨(some 23), none, .move (.t 0)⟩,
    ⟨(some 24), none, .nilCheck (.t 23)⟩,
    ⟨(some 25), none, .fieldAddr 1 (.t 24)⟩,
    ⟨(some 26), none, .load false 1 (.t 25)⟩,
    ⟨(some 27), none, .move (.t 5)⟩,
    ⟨(some 28), none, .bin .sub 3 (.t 27) (.c (.int .i64 1))⟩,
    ⟨(some 29), none, .slice 1 (.t 26) none (some (.t 28)) none⟩,
    ⟨(some 30), none, .nilCheck (.t 22)⟩,
    ⟨(some 31), none, .fieldAddr 1 (.t 30)⟩,
    ⟨none, none, .store 1 (.t 31) (.t 29)⟩] (some [0, 3, 6]))
  (.seq (.opsd [(0, 0, ⟨(some 32), none, .move (.t 0)⟩),
    (1, 1, ⟨(some 33), none, .nilCheck (.t 32)⟩),
    (2, 3, ⟨(some 34), none, .fieldAddr 0 (.t 33)⟩),
    (3, 7, ⟨(some 35), none, .load false 1 (.t 34)⟩),
    (4, 0, ⟨(some 36), none, .move (.t 6)⟩),
    (5, 0, ⟨(some 37), none, .load true 3 (.t 3)⟩),
    (6, 63, ⟨(some 38), none, .indexAddr 3 (.t 35) (.t 36)⟩),
    (7, 127, ⟨none, none, .store 3 (.t 38) (.t 37)⟩)] (some [6]))
  (.seq (.ops [⟨(some 39), none, .move (.t 6)⟩,
    ⟨(some 4), none, .move (.t 39)⟩] (some [4]))
  .ret))))
  .skip)))
 (.seq (.opsd [(0, 0, ⟨(some 40), none, .move (.t 0)⟩),
   (1, 0, ⟨(some 41), none, .move (.t 0)⟩),
   (2, 2, ⟨(some 42), none, .nilCheck (.t 41)⟩),
   (3, 6, ⟨(some 43), none, .fieldAddr 0 (.t 42)⟩),
   (4, 14, ⟨(some 44), none, .load false 1 (.t 43)⟩),
   (5, 0, ⟨(some 45), none, .load true 3 (.t 3)⟩),
   (6, 32, ⟨(some 46), none, .buildSlice [(.slice none 0 0), (.slice none 0 0), (.slice none 0 0)] 3 1 [(0, (.t 45))]⟩),
   (7, 126, ⟨(some 47), none, .append 3 72 [(.slice none 0 0), (.slice none 0 0), (.slice none 0 0)] (.t 44) (.t 46)⟩),
   (8, 255, ⟨(some 48), none, .nilCheck (.t 40)⟩),
   (9, 511, ⟨(some 49), none, .fieldAddr 0 (.t 48)⟩),
   (10, 1023, ⟨none, none, .store 1 (.t 49) (.t 47)⟩)] (some [0]))
 (.seq (.ops [⟨(some 50), none, .move (.t 0)⟩,
   ⟨(some 51), none, .nilCheck (.t 50)⟩,
   ⟨(some 52), none, .fieldAddr 0 (.t 51)⟩,
   ⟨(some 53), none, .load false 1 (.t 52)⟩,
   ⟨(some 54), none, .len (.t 53)⟩,
   ⟨(some 55), none, .bin .sub 3 (.t 54) (.c (.int .i64 1))⟩,
   ⟨(some 4), none, .move (.t 55)⟩] (some [4]))
 .ret)))), [.tmp 4]⟩

/-- (*cloisonne/tree.Tree).put -/
def x97 : XDecl := .code ⟨4, 
 (.seq (.ops [⟨(some 15), none, .move (.t 0)⟩,
   ⟨(some 16), none, .nilCheck (.t 15)⟩,
   ⟨(some 17), none, .fieldAddr 0 (.t 16)⟩,
   ⟨(some 18), none, .load false 1 (.t 17)⟩,
   ⟨(some 19), none, .move (.t 1)⟩,
   ⟨(some 20), none, .indexAddr 3 (.t 18) (.t 19)⟩,
   ⟨(some 8), none, .move (.t 20)⟩] (some [0, 1, 2, 3, 8]))
 (.seq (.seq (.ops [⟨(some 21), none, .move (.t 8)⟩,
   ⟨(some 22), none, .call (.c (.func (.func 86) #[] #[])) [(.t 21)]⟩] (some [0, 1, 2, 3, 8, 22]))
 (.cond (.t 22)
  (.seq (.ops [⟨(some 24), none, .move (.t 8)⟩,
    ⟨(some 25), none, .nilCheck (.t 24)⟩,
    ⟨(some 26), none, .fieldAddr 0 (.t 25)⟩,
    ⟨(some 27), none, .load false 1 (.t 26)⟩,
    ⟨(some 28), none, .move (.t 2)⟩,
    ⟨(some 29), none, .call (.c (.func (.func 87) #[] #[])) [(.t 27), (.t 28)]⟩,
    ⟨(some 23), none, .move (.t 29)⟩,
    ⟨(some 30), none, .extract (.t 23) 0⟩,
    ⟨(some 31), none, .extract (.t 23) 1⟩,
    ⟨(some 9), none, .move (.t 30)⟩,
    ⟨(some 10), none, .move (.t 31)⟩] (some [2, 3, 8, 9]))
  (.seq (.opsd [(0, 0, ⟨(some 32), none, .move (.t 8)⟩),
    (1, 0, ⟨(some 33), none, .move (.t 8)⟩),
    (2, 0, ⟨(some 34), none, .move (.t 8)⟩),
    (3, 4, ⟨(some 35), none, .nilCheck (.t 34)⟩),
    (4, 12, ⟨(some 36), none, .fieldAddr 0 (.t 35)⟩),
    (5, 28, ⟨(some 37), none, .load false 1 (.t 36)⟩),
    (6, 0, ⟨(some 38), none, .move (.t 9)⟩),
    (7, 0, ⟨(some 39), none, .move (.t 2)⟩),
    (8, 128, ⟨(some 40), none, .buildSlice [(.string .empty)] 1 1 [(0, (.t 39))]⟩),
    (10, 0, ⟨(some 42), none, .move (.t 8)⟩),
    (11, 1024, ⟨(some 43), none, .nilCheck (.t 42)⟩),
    (12, 3072, ⟨(some 44), none, .fieldAddr 1 (.t 43)⟩),
    (13, 7168, ⟨(some 45), none, .load false 1 (.t 44)⟩),
    (14, 0, ⟨(some 46), none, .move (.t 9)⟩),
    (15, 0, ⟨(some 47), none, .move (.t 3)⟩),
    (16, 32768, ⟨(some 48), none, .buildSlice [(.int .i64 0)] 1 1 [(0, (.t 47))]⟩),
    (9, 508, ⟨(some 41), none, .call (.c (.func (.func 115) #[] #[])) [(.t 37), (.t 38), (.t 40)]⟩),
    (17, 131068, ⟨(some 49), none, .call (.c (.func (.func 116) #[] #[])) [(.t 45), (.t 46), (.t 48)]⟩),
    (18, 262141, ⟨(some 50), none, .nilCheck (.t 32)⟩),
    (19, 524285, ⟨(some 51), none, .fieldAddr 0 (.t 50)⟩),
    (20, 1048573, ⟨none, none, .store 1 (.t 51) (.t 41)⟩),
    (21, 2097151, ⟨(some 52), none, .nilCheck (.t 33)⟩),
    (22, 4194303, ⟨(some 53), none, .fieldAddr 1 (.t 52)⟩),
    (23, 8388607, ⟨none, none, .store 1 (.t 53) (.t 49)⟩)] (some []))
  .ret))
  .skip))
 (.seq (.ops [⟨(some 54), none, .move (.t 8)⟩,
   ⟨(some 55), none, .move (.t 2)⟩,
   ⟨(some 56), none, .call (.c (.func (.func 88) #[] #[])) [(.t 54), (.t 55)]⟩,
   ⟨(some 11), none, .move (.t 56)⟩] (some [0, 1, 2, 3, 8, 11]))
 (.seq (.ops [⟨(some 57), none, .move (.t 8)⟩,
   ⟨(some 58), none, .nilCheck (.t 57)⟩,
   ⟨(some 59), none, .fieldAddr 2 (.t 58)⟩,
   ⟨(some 60), none, .load false 1 (.t 59)⟩,
   ⟨(some 61), none, .move (.t 11)⟩,
   ⟨(some 62), none, .indexAddr 1 (.t 60) (.t 61)⟩,
   ⟨(some 63), none, .load false 1 (.t 62)⟩,
   ⟨(some 12), none, .move (.t 63)⟩] (some [0, 1, 2, 3, 11, 12]))
 (.seq (.ops [⟨(some 64), none, .move (.t 0)⟩,
   ⟨(some 65), none, .move (.t 12)⟩,
   ⟨(some 66), none, .move (.t 2)⟩,
   ⟨(some 67), none, .move (.t 3)⟩,
   ⟨(some 68), none, .call (.c (.func (.func 97) #[] #[])) [(.t 64), (.t 65), (.t 66), (.t 67)]⟩] (some [0, 1, 11, 12]))
 (.seq (.ops [⟨(some 69), none, .move (.t 0)⟩,
   ⟨(some 70), none, .nilCheck (.t 69)⟩,
   ⟨(some 71), none, .fieldAddr 0 (.t 70)⟩,
   ⟨(some 72), none, .load false 1 (.t 71)⟩,
   ⟨(some 73), none, .move (.t 12)⟩,
   ⟨(some 74), none, .indexAddr 3 (.t 72) (.t 73)⟩,
   ⟨(some 75), none, .call (.c (.func (.func 98) #[] #[])) [(.t 74)]⟩,
   ⟨(some 76), none, .bin .gtr 3 (.t 75) (.c (.int .i64 4))⟩] (some [0, 1, 11, 12, 76]))
 (.cond (.t 76)
  (.seq (.ops [⟨(some 78), none, .move (.t 0)⟩,
    ⟨(some 79), none, .move (.t 12)⟩,
    ⟨(some 80), none, .call (.c (.func (.func 99) #[] #[])) [(.t 78), (.t 79)]⟩,
    ⟨(some 77), none, .move (.t 80)⟩,
    ⟨(some 81), none, .extract (.t 77) 0⟩,
    ⟨(some 82), none, .extract (.t 77) 1⟩,
    ⟨(some 13), none, .move (.t 81)⟩,
    ⟨(some 14), none, .move (.t 82)⟩] (some [0, 1, 11, 13, 14]))
  (.seq (.ops [⟨(some 83), none, .move (.t 0)⟩,
    ⟨(some 84), none, .nilCheck (.t 83)⟩,
    ⟨(some 85), none, .fieldAddr 0 (.t 84)⟩,
    ⟨(some 86), none, .load false 1 (.t 85)⟩,
    ⟨(some 87), none, .move (.t 1)⟩,
    ⟨(some 88), none, .indexAddr 3 (.t 86) (.t 87)⟩,
    ⟨(some 8), none, .move (.t 88)⟩] (some [8, 11, 13, 14]))
  (.opsd [(0, 0, ⟨(some 89), none, .move (.t 8)⟩),
    (1, 0, ⟨(some 90), none, .move (.t 8)⟩),
    (2, 0, ⟨(some 91), none, .move (.t 8)⟩),
    (3, 4, ⟨(some 92), none, .nilCheck (.t 91)⟩),
    (4, 12, ⟨(some 93), none, .fieldAddr 0 (.t 92)⟩),
    (5, 28, ⟨(some 94), none, .load false 1 (.t 93)⟩),
    (6, 0, ⟨(some 95), none, .move (.t 11)⟩),
    (7, 0, ⟨(some 96), none, .move (.t 14)⟩),
    (8, 128, ⟨(some 97), none, .buildSlice [(.string .empty)] 1 1 [(0, (.t 96))]⟩),
    (10, 0, ⟨(some 99), none, .move (.t 8)⟩),
    (11, 1024, ⟨(some 100), none, .nilCheck (.t 99)⟩),
    (12, 3072, ⟨(some 101), none, .fieldAddr 2 (.t 100)⟩),
    (13, 7168, ⟨(some 102), none, .load false 1 (.t 101)⟩),
    (14, 0, ⟨(some 103), none, .move (.t 11)⟩),
    (15, 16384, ⟨(some 104), none, .bin .add 3 (.t 103) (.c (.int .i64 1))⟩),
    (16, 0, ⟨(some 105), none, .move (.t 13)⟩),
    (17, 65536, ⟨(some 106), none, .buildSlice [(.int .i64 0)] 1 1 [(0, (.t 105))]⟩),
    (9, 508, ⟨(some 98), none, .call (.c (.func (.func 115) #[] #[])) [(.t 94), (.t 95), (.t 97)]⟩),
    (18, 262140, ⟨(some 107), none, .call (.c (.func (.func 116) #[] #[])) [(.t 102), (.t 104), (.t 106)]⟩),
    (19, 524285, ⟨(some 108), none, .nilCheck (.t 89)⟩),
    (20, 1048573, ⟨(some 109), none, .fieldAddr 0 (.t 108)⟩),
    (21, 2097149, ⟨none, none, .store 1 (.t 109) (.t 98)⟩),
    (22, 4194303, ⟨(some 110), none, .nilCheck (.t 90)⟩),
    (23, 8388607, ⟨(some 111), none, .fieldAddr 2 (.t 110)⟩),
    (24, 16777215, ⟨none, none, .store 1 (.t 111) (.t 107)⟩)] (some []))))
  .skip))))))), []⟩

/-- (*cloisonne/tree.node).size -/
def x98 : XDecl := .code ⟨1, 
 (.seq (.ops [⟨(some 2), none, .move (.c (.int .i64 0))⟩] (some [0]))
 (.seq (.seq (.ops [⟨(some 3), none, .move (.t 0)⟩,
   ⟨(some 4), none, .call (.c (.func (.func 86) #[] #[])) [(.t 3)]⟩] (some [0, 4]))
 (.cond (.t 4)
  (.seq (.ops [⟨(some 5), none, .move (.t 0)⟩,
    ⟨(some 6), none, .nilCheck (.t 5)⟩,
    ⟨(some 7), none, .fieldAddr 0 (.t 6)⟩,
    ⟨(some 8), none, .load false 1 (.t 7)⟩,
    ⟨(some 9), none, .len (.t 8)⟩,
    ⟨(some 2), none, .move (.t 9)⟩] (some [2]))
  .ret)
  .skip))
 (.seq (.ops [⟨(some 10), none, .move (.t 0)⟩,
   ⟨(some 11), none, .nilCheck (.t 10)⟩,
   ⟨(some 12), none, .fieldAddr 2 (.t 11)⟩,
   ⟨(some 13), none, .load false 1 (.t 12)⟩,
   ⟨(some 14), none, .len (.t 13)⟩,
   ⟨(some 2), none, .move (.t 14)⟩] (some [2]))
 .ret))), [.tmp 2]⟩

/-- (*cloisonne/tree.Tree).split -/
def x99 : XDecl := .code ⟨2, 
 (.seq (.ops [⟨(some 4), none, .move (.c (.int .i64 0))⟩,
   ⟨(some 5), none, .move (.c (.string .empty))⟩] (some [0, 1]))
 (.seq (.ops [⟨(some 10), none, .move (.t 0)⟩,
   ⟨(some 11), none, .nilCheck (.t 10)⟩,
   ⟨(some 12), none, .fieldAddr 0 (.t 11)⟩,
   ⟨(some 13), none, .load false 1 (.t 12)⟩,
   ⟨(some 14), none, .move (.t 1)⟩,
   ⟨(some 15), none, .indexAddr 3 (.t 13) (.t 14)⟩,
   ⟨(some 16), none, .load true 3 (.t 15)⟩,
   ⟨(some 6), none, .alloc [(.slice none 0 0), (.slice none 0 0), (.slice none 0 0)]⟩,
   ⟨none, none, .store 3 (.t 6) (.t 16)⟩] (some [0, 1, 6]))
 (.seq (.ops [⟨(some 17), none, .call (.c (.func (.func 98) #[] #[])) [(.t 6)]⟩,
   ⟨(some 18), none, .bin .quo 3 (.t 17) (.c (.int .i64 2))⟩,
   ⟨(some 7), none, .move (.t 18)⟩] (some [0, 1, 6, 7]))
 (.seq (.seq (.ops [⟨(some 19), none, .call (.c (.func (.func 86) #[] #[])) [(.t 6)]⟩] (some [0, 1, 6, 7, 19]))
 (.cond (.t 19)
  (.seq (.opsd [(0, 0, ⟨(some 20), none, .move (.t 0)⟩),
    (1, 0, ⟨(some 21), none, .fieldAddr 0 (.t 6)⟩),
    (2, 2, ⟨(some 22), none, .load false 1 (.t 21)⟩),
    (3, 0, ⟨(some 23), none, .move (.t 7)⟩),
    (4, 14, ⟨(some 24), none, .slice 1 (.t 22) (some (.t 23)) none none⟩),
    (6, 0, ⟨(some 26), none, .fieldAddr 1 (.t 6)⟩),
    (7, 64, ⟨(some 27), none, .load false 1 (.t 26)⟩),
    (8, 0, ⟨(some 28), none, .move (.t 7)⟩),
    (9, 448, ⟨(some 29), none, .slice 1 (.t 27) (some (.t 28)) none none⟩),
    (5, 30, ⟨(some 25), none, .call (.c (.func (.func 117) #[] #[])) [(.t 24)]⟩),
    (10, 1022, ⟨(some 30), none, .call (.c (.func (.func 118) #[] #[])) [(.t 29)]⟩),
    (11, 2046, ⟨(some 31), none, .build [(.slice none 0 0), (.slice none 0 0), (.slice none 0 0)] [(0, 1), (1, 1), (2, 1)] [(0, (.t 25)), (1, (.t 30))]⟩),
    (12, 4095, ⟨(some 32), none, .call (.c (.func (.func 96) #[] #[])) [(.t 20), (.t 31)]⟩),
    (13, 8191, ⟨(some 8), none, .move (.t 32)⟩)] (some [0, 1, 6, 7, 8]))
  (.seq (.opsd [(0, 0, ⟨(some 33), none, .move (.t 0)⟩),
    (1, 1, ⟨(some 34), none, .nilCheck (.t 33)⟩),
    (2, 3, ⟨(some 35), none, .fieldAddr 0 (.t 34)⟩),
    (3, 7, ⟨(some 36), none, .load false 1 (.t 35)⟩),
    (4, 0, ⟨(some 37), none, .move (.t 1)⟩),
    (5, 0, ⟨(some 38), none, .move (.t 0)⟩),
    (6, 32, ⟨(some 39), none, .nilCheck (.t 38)⟩),
    (7, 96, ⟨(some 40), none, .fieldAddr 0 (.t 39)⟩),
    (8, 224, ⟨(some 41), none, .load false 1 (.t 40)⟩),
    (9, 0, ⟨(some 42), none, .move (.t 1)⟩),
    (10, 0, ⟨(some 43), none, .fieldAddr 0 (.t 6)⟩),
    (11, 1024, ⟨(some 44), none, .load false 1 (.t 43)⟩),
    (12, 0, ⟨(some 45), none, .move (.t 7)⟩),
    (13, 0, ⟨(some 46), none, .move (.t 7)⟩),
    (14, 15360, ⟨(some 47), none, .slice 1 (.t 44) none (some (.t 45)) (some (.t 46))⟩),
    (15, 0, ⟨(some 48), none, .fieldAddr 1 (.t 6)⟩),
    (16, 32768, ⟨(some 49), none, .load false 1 (.t 48)⟩),
    (17, 0, ⟨(some 50), none, .move (.t 7)⟩),
    (18, 0, ⟨(some 51), none, .move (.t 7)⟩),
    (19, 491520, ⟨(some 52), none, .slice 1 (.t 49) none (some (.t 50)) (some (.t 51))⟩),
    (20, 130559, ⟨(some 53), none, .indexAddr 3 (.t 36) (.t 37)⟩),
    (21, 1179135, ⟨(some 54), none, .fieldAddr 0 (.t 53)⟩),
    (22, 3276287, ⟨none, none, .store 1 (.t 54) (.t 47)⟩),
    (23, 8388607, ⟨(some 55), none, .indexAddr 3 (.t 41) (.t 42)⟩),
    (24, 16777215, ⟨(some 56), none, .fieldAddr 1 (.t 55)⟩),
    (25, 33554431, ⟨none, none, .store 1 (.t 56) (.t 52)⟩)] (some [6, 7, 8]))
  (.seq (.opsr [⟨(some 57), none, .move (.t 8)⟩,
    ⟨(some 58), none, .fieldAddr 0 (.t 6)⟩,
    ⟨(some 59), none, .load false 1 (.t 58)⟩,
    ⟨(some 60), none, .move (.t 7)⟩,
    ⟨(some 61), none, .indexAddr 1 (.t 59) (.t 60)⟩,
    ⟨(some 62), none, .load false 1 (.t 61)⟩,
    ⟨(some 4), none, .move (.t 57)⟩,
    ⟨(some 5), none, .move (.t 62)⟩] (some [4, 5]))
  .ret)))
  .skip))
 (.seq (.opsd [(0, 0, ⟨(some 63), none, .move (.t 0)⟩),
   (1, 0, ⟨(some 64), none, .fieldAddr 0 (.t 6)⟩),
   (2, 2, ⟨(some 65), none, .load false 1 (.t 64)⟩),
   (3, 0, ⟨(some 66), none, .move (.t 7)⟩),
   (4, 14, ⟨(some 67), none, .slice 1 (.t 65) (some (.t 66)) none none⟩),
   (6, 0, ⟨(some 69), none, .fieldAddr 2 (.t 6)⟩),
   (7, 64, ⟨(some 70), none, .load false 1 (.t 69)⟩),
   (8, 0, ⟨(some 71), none, .move (.t 7)⟩),
   (9, 448, ⟨(some 72), none, .slice 1 (.t 70) (some (.t 71)) none none⟩),
   (5, 30, ⟨(some 68), none, .call (.c (.func (.func 117) #[] #[])) [(.t 67)]⟩),
   (10, 1022, ⟨(some 73), none, .call (.c (.func (.func 118) #[] #[])) [(.t 72)]⟩),
   (11, 2046, ⟨(some 74), none, .build [(.slice none 0 0), (.slice none 0 0), (.slice none 0 0)] [(0, 1), (1, 1), (2, 1)] [(0, (.t 68)), (2, (.t 73))]⟩),
   (12, 4095, ⟨(some 75), none, .call (.c (.func (.func 96) #[] #[])) [(.t 63), (.t 74)]⟩),
   (13, 8191, ⟨(some 9), none, .move (.t 75)⟩)] (some [0, 1, 6, 7, 9]))
 (.seq (.opsd [(0, 0, ⟨(some 76), none, .move (.t 0)⟩),
   (1, 1, ⟨(some 77), none, .nilCheck (.t 76)⟩),
   (2, 3, ⟨(some 78), none, .fieldAddr 0 (.t 77)⟩),
   (3, 7, ⟨(some 79), none, .load false 1 (.t 78)⟩),
   (4, 0, ⟨(some 80), none, .move (.t 1)⟩),
   (5, 0, ⟨(some 81), none, .move (.t 0)⟩),
   (6, 32, ⟨(some 82), none, .nilCheck (.t 81)⟩),
   (7, 96, ⟨(some 83), none, .fieldAddr 0 (.t 82)⟩),
   (8, 224, ⟨(some 84), none, .load false 1 (.t 83)⟩),
   (9, 0, ⟨(some 85), none, .move (.t 1)⟩),
   (10, 0, ⟨(some 86), none, .fieldAddr 0 (.t 6)⟩),
   (11, 1024, ⟨(some 87), none, .load false 1 (.t 86)⟩),
   (12, 0, ⟨(some 88), none, .move (.t 7)⟩),
   (13, 4096, ⟨(some 89), none, .bin .sub 3 (.t 88) (.c (.int .i64 1))⟩),
   (14, 0, ⟨(some 90), none, .move (.t 7)⟩),
   (15, 16384, ⟨(some 91), none, .bin .sub 3 (.t 90) (.c (.int .i64 1))⟩),
   (16, 64512, ⟨(some 92), none, .slice 1 (.t 87) none (some (.t 89)) (some (.t 91))⟩),
   (17, 0, ⟨(some 93), none, .fieldAddr 2 (.t 6)⟩),
   (18, 131072, ⟨(some 94), none, .load false 1 (.t 93)⟩),
   (19, 0, ⟨(some 95), none, .move (.t 7)⟩),
   (20, 0, ⟨(some 96), none, .move (.t 7)⟩),
   (21, 1966080, ⟨(some 97), none, .slice 1 (.t 94) none (some (.t 95)) (some (.t 96))⟩),
   (22, 523775, ⟨(some 98), none, .indexAddr 3 (.t 79) (.t 80)⟩),
   (23, 4718079, ⟨(some 99), none, .fieldAddr 0 (.t 98)⟩),
   (24, 13106687, ⟨none, none, .store 1 (.t 99) (.t 92)⟩),
   (25, 33554431, ⟨(some 100), none, .indexAddr 3 (.t 84) (.t 85)⟩),
   (26, 67108863, ⟨(some 101), none, .fieldAddr 2 (.t 100)⟩),
   (27, 134217727, ⟨none, none, .store 1 (.t 101) (.t 97)⟩)] (some [6, 7, 9]))
 (.seq (.opsr [⟨(some 102), none, .move (.t 9)⟩,
   ⟨(some 103), none, .fieldAddr 0 (.t 6)⟩,
   ⟨(some 104), none, .load false 1 (.t 103)⟩,
   ⟨(some 105), none, .move (.t 7)⟩,
   ⟨(some 106), none, .bin .sub 3 (.t 105) (.c (.int .i64 1))⟩,
   ⟨(some 107), none, .indexAddr 1 (.t 104) (.t 106)⟩,
   ⟨(some 108), none, .load false 1 (.t 107)⟩,
   ⟨(some 4), none, .move (.t 102)⟩,
   ⟨(some 5), none, .move (.t 108)⟩] (some [4, 5]))
 .ret))))))), [.tmp 4, .tmp 5]⟩

/-- cloisonne/label.Right -/
def x106 : XDecl := .code ⟨1, 
 (.seq (.ops [⟨(some 2), none, .move (.c (.bool false))⟩] (some [0]))
 (.seq (.seq (.ops [⟨(some 6), none, .move (.t 0)⟩,
   ⟨(some 7), none, .len (.t 6)⟩,
   ⟨(some 8), none, .bin .gtr 3 (.t 7) (.c (.int .i64 6))⟩] (some [0, 8]))
 (.cond (.t 8)
  (.seq (.ops [⟨(some 2), none, .move (.c (.bool false))⟩] (some [2]))
  .ret)
  .skip))
 (.seq (.ops [⟨(some 3), none, .move (.c (.int .u64 0))⟩] (some [0, 3]))
 (.seq (.seq (.ops [⟨(some 9), none, .move (.t 0)⟩,
   ⟨(some 10), none, .len (.t 9)⟩,
   ⟨(some 11), none, .move (.c (.int .i64 0))⟩] (some [3, 9, 10, 11]))
 (.block 0
  (.loop
   (.seq (.ops [⟨(some 12), none, .bin .lss 3 (.t 11) (.t 10)⟩] (some [3, 9, 10, 11, 12]))
   (.seq (.cond (.t 12)
    .skip
    (.exit 0))
   (.seq (.block 1
    (.seq (.ops [⟨(some 13), none, .indexAddr 1 (.t 9) (.t 11)⟩,
      ⟨(some 14), none, .load false 1 (.t 13)⟩,
      ⟨(some 5), none, .move (.t 14)⟩] (some [3, 5, 9, 10, 11]))
    (.seq (.seq (.ops [⟨(some 15), none, .move (.t 5)⟩,
      ⟨(some 16), none, .move (.t 3)⟩,
      ⟨(some 17), none, .bin .leq 25 (.t 15) (.t 16)⟩] (some [5, 9, 10, 11, 17]))
    (.cond (.t 17)
     (.seq (.ops [⟨(some 2), none, .move (.c (.bool false))⟩] (some [2]))
     .ret)
     .skip))
    (.ops [⟨(some 18), none, .move (.t 5)⟩,
      ⟨(some 3), none, .move (.t 18)⟩] (some [3, 9, 10, 11])))))
   (.ops [⟨(some 19), none, .bin .add 3 (.t 11) (.c (.int .i64 1))⟩,
     ⟨(some 11), none, .move (.t 19)⟩] (some [3, 9, 10, 11]))))))))
 (.seq (.ops [⟨(some 2), none, .move (.c (.bool true))⟩] (some [2]))
 .ret))))), [.tmp 2]⟩

/-- cmp.isNaN[uint64] -/
def x107 : XDecl := .code ⟨1, 
 (.seq (.ops [⟨(some 2), none, .move (.c (.bool false))⟩] (some [0]))
 (.seq (.ops [⟨(some 3), none, .move (.t 0)⟩,
   ⟨(some 4), none, .move (.t 0)⟩,
   ⟨(some 5), none, .bin .neq 25 (.t 3) (.t 4)⟩,
   ⟨(some 2), none, .move (.t 5)⟩] (some [2]))
 .ret)), [.tmp 2]⟩

/-- cmp.Less[string] -/
def x108 : XDecl := .code ⟨2, 
 (.seq (.ops [⟨(some 4), none, .move (.c (.bool false))⟩] (some [0, 1]))
 (.seq (.ops [⟨(some 5), none, .move (.t 0)⟩,
   ⟨(some 6), none, .call (.c (.func (.func 123) #[] #[])) [(.t 5)]⟩,
   ⟨(some 7), none, .move (.t 6)⟩,
   ⟨(some 8), (some (7, true)), .move (.t 1)⟩,
   ⟨(some 9), (some (7, true)), .call (.c (.func (.func 123) #[] #[])) [(.t 8)]⟩,
   ⟨(some 10), (some (7, true)), .un .not (.t 9)⟩,
   ⟨(some 11), none, .pick (.t 7) (.t 10) (.c (.bool false))⟩,
   ⟨(some 12), none, .move (.t 11)⟩,
   ⟨(some 13), (some (12, false)), .move (.t 0)⟩,
   ⟨(some 14), (some (12, false)), .move (.t 1)⟩,
   ⟨(some 15), (some (12, false)), .bin .lss 9 (.t 13) (.t 14)⟩,
   ⟨(some 16), none, .pick (.t 12) (.c (.bool true)) (.t 15)⟩,
   ⟨(some 4), none, .move (.t 16)⟩] (some [4]))
 .ret)), [.tmp 4]⟩

/-- slices.isNaN[string] -/
def x109 : XDecl := .code ⟨1, 
 (.seq (.ops [⟨(some 2), none, .move (.c (.bool false))⟩] (some [0]))
 (.seq (.ops [⟨(some 3), none, .move (.t 0)⟩,
   ⟨(some 4), none, .move (.t 0)⟩,
   ⟨(some 5), none, .bin .neq 9 (.t 3) (.t 4)⟩,
   ⟨(some 2), none, .move (.t 5)⟩] (some [2]))
 .ret)), [.tmp 2]⟩

/-- math.IsNaN -/
def x110 : XDecl := .code ⟨1, 
 (.seq (.ops [⟨(some 2), none, .move (.c (.bool false))⟩] (some [0]))
 (.seq (.ops [⟨(some 3), none, .move (.t 0)⟩,
   ⟨(some 4), none, .move (.t 0)⟩,
   ⟨(some 5), none, .bin .neq 96 (.t 3) (.t 4)⟩,
   ⟨(some 2), none, .move (.t 5)⟩] (some [2]))
 .ret)), [.tmp 2]⟩

/-- cloisonne/num.Key -/
def x111 : XDecl := .code ⟨1, 
 (.seq (.ops [⟨(some 2), none, .move (.c (.string .empty))⟩] (some [0]))
 (.seq (.ops [⟨(some 3), none, .alloc [(.int .u8 0), (.int .u8 0), (.int .u8 0), (.int .u8 0), (.int .u8 0), (.int .u8 0), (.int .u8 0), (.int .u8 0)]⟩] (some [0, 3]))
 (.seq (.ops [⟨(some 6), none, .move (.t 0)⟩,
   ⟨(some 7), none, .call (.c (.func (.func 124) #[] #[])) [(.t 6)]⟩,
   ⟨(some 4), none, .move (.t 7)⟩] (some [3, 4]))
 (.seq (.seq (.ops [⟨(some 8), none, .move (.c (.int .i64 0))⟩] (some [3, 4, 8]))
 (.block 0
  (.loop
   (.seq (.ops [⟨(some 9), none, .bin .lss 3 (.t 8) (.c (.int .i64 8))⟩] (some [3, 4, 8, 9]))
   (.seq (.cond (.t 9)
    .skip
    (.exit 0))
   (.seq (.block 1
    (.seq (.ops [⟨(some 10), none, .move (.t 8)⟩,
      ⟨(some 5), none, .move (.t 10)⟩] (some [3, 4, 5, 8]))
    (.ops [⟨(some 11), none, .move (.t 5)⟩,
      ⟨(some 12), none, .move (.t 4)⟩,
      ⟨(some 13), none, .move (.t 5)⟩,
      ⟨(some 14), none, .bin .sub 3 (.c (.int .i64 7)) (.t 13)⟩,
      ⟨(some 15), none, .bin .mul 3 (.c (.int .i64 8)) (.t 14)⟩,
      ⟨(some 16), none, .bin .shr 25 (.t 12) (.t 15)⟩,
      ⟨(some 17), none, .conv 25 5 (.t 16)⟩,
      ⟨(some 18), none, .indexAddrArr 8 1 (.t 3) (.t 11)⟩,
      ⟨none, none, .store 1 (.t 18) (.t 17)⟩] (some [3, 4, 8]))))
   (.ops [⟨(some 19), none, .bin .add 3 (.t 8) (.c (.int .i64 1))⟩,
     ⟨(some 8), none, .move (.t 19)⟩] (some [3, 4, 8]))))))))
 (.seq (.ops [⟨(some 20), none, .fail⟩,
   ⟨(some 21), none, .bstr (.t 20)⟩,
   ⟨(some 2), none, .move (.t 21)⟩] (some [2]))
 .ret))))), [.tmp 2]⟩

/-- slices.Delete[[]string,string] -/
def x112 : XDecl := .code ⟨3, 
 (.seq (.ops [⟨(some 6), none, .move (.c (.slice none 0 0))⟩] (some [0, 1, 2]))
 (.seq (.ops [⟨(some 8), none, .move (.t 0)⟩,
   ⟨(some 9), none, .move (.t 1)⟩,
   ⟨(some 10), none, .move (.t 2)⟩,
   ⟨(some 11), none, .move (.t 0)⟩,
   ⟨(some 12), none, .len (.t 11)⟩,
   ⟨(some 13), none, .slice 1 (.t 8) (some (.t 9)) (some (.t 10)) (some (.t 12))⟩] (some [0, 1, 2]))
 (.seq (.seq (.ops [⟨(some 14), none, .move (.t 1)⟩,
   ⟨(some 15), none, .move (.t 2)⟩,
   ⟨(some 16), none, .bin .eql 3 (.t 14) (.t 15)⟩] (some [0, 1, 2, 16]))
 (.cond (.t 16)
  (.seq (.ops [⟨(some 17), none, .move (.t 0)⟩,
    ⟨(some 6), none, .move (.t 17)⟩] (some [6]))
  .ret)
  .skip))
 (.seq (.ops [⟨(some 18), none, .move (.t 0)⟩,
   ⟨(some 19), none, .len (.t 18)⟩,
   ⟨(some 7), none, .move (.t 19)⟩] (some [0, 1, 2, 7]))
 (.seq (.opsd [(0, 0, ⟨(some 20), none, .move (.t 0)⟩),
   (1, 0, ⟨(some 21), none, .move (.t 1)⟩),
   (2, 3, ⟨(some 22), none, .slice 1 (.t 20) none (some (.t 21)) none⟩),
   (3, 0, ⟨(some 23), none, .move (.t 0)⟩),
   (4, 0, ⟨(some 24), none, .move (.t 2)⟩),
   (5, 24, ⟨(some 25), none, .slice 1 (.t 23) (some (.t 24)) none none⟩),
   (6, 63, ⟨(some 26), none, .append 1 16 [(.string .empty)] (.t 22) (.t 25)⟩),
   (7, 127, ⟨(some 0), none, .move (.t 26)⟩)] (some [0, 7]))
 (.seq (.ops [⟨(some 27), none, .move (.t 0)⟩,
   ⟨(some 28), none, .move (.t 0)⟩,
   ⟨(some 29), none, .len (.t 28)⟩,
   ⟨(some 30), none, .move (.t 7)⟩,
   ⟨(some 31), none, .slice 1 (.t 27) (some (.t 29)) (some (.t 30)) none⟩,
   ⟨none, none, .clear [(.string .empty)] (.t 31)⟩] (some [0]))
 (.seq (.ops [⟨(some 32), none, .move (.t 0)⟩,
   ⟨(some 6), none, .move (.t 32)⟩] (some [6]))
 .ret))))))), [.tmp 6]⟩

/-- slices.Delete[[]int,int] -/
def x113 : XDecl := .code ⟨3, 
 (.seq (.ops [⟨(some 6), none, .move (.c (.slice none 0 0))⟩] (some [0, 1, 2]))
 (.seq (.ops [⟨(some 8), none, .move (.t 0)⟩,
   ⟨(some 9), none, .move (.t 1)⟩,
   ⟨(some 10), none, .move (.t 2)⟩,
   ⟨(some 11), none, .move (.t 0)⟩,
   ⟨(some 12), none, .len (.t 11)⟩,
   ⟨(some 13), none, .slice 1 (.t 8) (some (.t 9)) (some (.t 10)) (some (.t 12))⟩] (some [0, 1, 2]))
 (.seq (.seq (.ops [⟨(some 14), none, .move (.t 1)⟩,
   ⟨(some 15), none, .move (.t 2)⟩,
   ⟨(some 16), none, .bin .eql 3 (.t 14) (.t 15)⟩] (some [0, 1, 2, 16]))
 (.cond (.t 16)
  (.seq (.ops [⟨(some 17), none, .move (.t 0)⟩,
    ⟨(some 6), none, .move (.t 17)⟩] (some [6]))
  .ret)
  .skip))
 (.seq (.ops [⟨(some 18), none, .move (.t 0)⟩,
   ⟨(some 19), none, .len (.t 18)⟩,
   ⟨(some 7), none, .move (.t 19)⟩] (some [0, 1, 2, 7]))
 (.seq (.opsd [(0, 0, ⟨(some 20), none, .move (.t 0)⟩),
   (1, 0, ⟨(some 21), none, .move (.t 1)⟩),
   (2, 3, ⟨(some 22), none, .slice 1 (.t 20) none (some (.t 21)) none⟩),
   (3, 0, ⟨(some 23), none, .move (.t 0)⟩),
   (4, 0, ⟨(some 24), none, .move (.t 2)⟩),
   (5, 24, ⟨(some 25), none, .slice 1 (.t 23) (some (.t 24)) none none⟩),
   (6, 63, ⟨(some 26), none, .append 1 8 [(.int .i64 0)] (.t 22) (.t 25)⟩),
   (7, 127, ⟨(some 0), none, .move (.t 26)⟩)] (some [0, 7]))
 (.seq (.ops [⟨(some 27), none, .move (.t 0)⟩,
   ⟨(some 28), none, .move (.t 0)⟩,
   ⟨(some 29), none, .len (.t 28)⟩,
   ⟨(some 30), none, .move (.t 7)⟩,
   ⟨(some 31), none, .slice 1 (.t 27) (some (.t 29)) (some (.t 30)) none⟩,
   ⟨none, none, .clear [(.int .i64 0)] (.t 31)⟩] (some [0]))
 (.seq (.ops [⟨(some 32), none, .move (.t 0)⟩,
   ⟨(some 6), none, .move (.t 32)⟩] (some [6]))
 .ret))))))), [.tmp 6]⟩

/-- (*cloisonne/tree.Tree).mend -/
def x114 : XDecl := .code ⟨3, 
 (.seq (.opsr [⟨(some 12), none, .move (.t 0)⟩,
   ⟨(some 13), none, .nilCheck (.t 12)⟩,
   ⟨(some 14), none, .fieldAddr 0 (.t 13)⟩,
   ⟨(some 15), none, .load false 1 (.t 14)⟩,
   ⟨(some 16), none, .move (.t 1)⟩,
   ⟨(some 17), none, .nilCheck (.t 16)⟩,
   ⟨(some 18), none, .fieldAddr 2 (.t 17)⟩,
   ⟨(some 19), none, .load false 1 (.t 18)⟩,
   ⟨(some 20), none, .move (.t 2)⟩,
   ⟨(some 21), none, .bin .sub 3 (.t 20) (.c (.int .i64 1))⟩,
   ⟨(some 22), none, .indexAddr 1 (.t 19) (.t 21)⟩,
   ⟨(some 23), none, .load false 1 (.t 22)⟩,
   ⟨(some 24), none, .indexAddr 3 (.t 15) (.t 23)⟩,
   ⟨(some 25), none, .move (.t 0)⟩,
   ⟨(some 26), none, .nilCheck (.t 25)⟩,
   ⟨(some 27), none, .fieldAddr 0 (.t 26)⟩,
   ⟨(some 28), none, .load false 1 (.t 27)⟩,
   ⟨(some 29), none, .move (.t 1)⟩,
   ⟨(some 30), none, .nilCheck (.t 29)⟩,
   ⟨(some 31), none, .fieldAddr 2 (.t 30)⟩,
   ⟨(some 32), none, .load false 1 (.t 31)⟩,
   ⟨(some 33), none, .move (.t 2)⟩,
   ⟨(some 34), none, .indexAddr 1 (.t 32) (.t 33)⟩,
   ⟨(some 35), none, .load false 1 (.t 34)⟩,
   ⟨(some 36), none, .indexAddr 3 (.t 28) (.t 35)⟩,
   ⟨(some 6), none, .move (.t 24)⟩,
   ⟨(some 7), none, .move (.t 36)⟩] (some [0, 1, 2, 6, 7]))
 (.seq (.seq (.ops [⟨(some 37), none, .move (.t 6)⟩,
   ⟨(some 38), none, .call (.c (.func (.func 98) #[] #[])) [(.t 37)]⟩,
   ⟨(some 39), none, .move (.t 7)⟩,
   ⟨(some 40), none, .call (.c (.func (.func 98) #[] #[])) [(.t 39)]⟩,
   ⟨(some 41), none, .bin .add 3 (.t 38) (.t 40)⟩,
   ⟨(some 42), none, .bin .leq 3 (.t 41) (.c (.int .i64 4))⟩] (some [0, 1, 2, 6, 7, 42]))
 (.cond (.t 42)
  (.seq (.ops [⟨(some 43), none, .move (.t 0)⟩,
    ⟨(some 44), none, .move (.t 1)⟩,
    ⟨(some 45), none, .move (.t 2)⟩,
    ⟨(some 46), none, .call (.c (.func (.func 125) #[] #[])) [(.t 43), (.t 44), (.t 45)]⟩] (some []))
  .ret)
  .skip))
 (.seq (.seq (.ops [⟨(some 47), none, .move (.t 6)⟩,
   ⟨(some 48), none, .call (.c (.func (.func 86) #[] #[])) [(.t 47)]⟩,
   ⟨(some 49), none, .un .not (.t 48)⟩] (some [1, 2, 6, 7, 49]))
 (.cond (.t 49)
  (.opsd [(0, 0, ⟨(some 50), none, .move (.t 6)⟩),
    (1, 0, ⟨(some 51), none, .move (.t 6)⟩),
    (2, 2, ⟨(some 52), none, .nilCheck (.t 51)⟩),
    (3, 6, ⟨(some 53), none, .fieldAddr 0 (.t 52)⟩),
    (4, 14, ⟨(some 54), none, .load false 1 (.t 53)⟩),
    (5, 0, ⟨(some 55), none, .move (.t 1)⟩),
    (6, 32, ⟨(some 56), none, .nilCheck (.t 55)⟩),
    (7, 96, ⟨(some 57), none, .fieldAddr 0 (.t 56)⟩),
    (8, 224, ⟨(some 58), none, .load false 1 (.t 57)⟩),
    (9, 0, ⟨(some 59), none, .move (.t 2)⟩),
    (10, 512, ⟨(some 60), none, .bin .sub 3 (.t 59) (.c (.int .i64 1))⟩),
    (11, 2016, ⟨(some 61), none, .indexAddr 1 (.t 58) (.t 60)⟩),
    (12, 4064, ⟨(some 62), none, .load false 1 (.t 61)⟩),
    (13, 8160, ⟨(some 63), none, .buildSlice [(.string .empty)] 1 1 [(0, (.t 62))]⟩),
    (14, 16382, ⟨(some 64), none, .append 1 16 [(.string .empty)] (.t 54) (.t 63)⟩),
    (15, 32767, ⟨(some 65), none, .nilCheck (.t 50)⟩),
    (16, 65535, ⟨(some 66), none, .fieldAddr 0 (.t 65)⟩),
    (17, 131071, ⟨none, none, .store 1 (.t 66) (.t 64)⟩)] (some [1, 2, 6, 7]))
  .skip))
 (.seq (.opsd [(0, 0, ⟨(some 67), none, .move (.t 6)⟩),
   (1, 1, ⟨(some 68), none, .nilCheck (.t 67)⟩),
   (2, 3, ⟨(some 69), none, .fieldAddr 0 (.t 68)⟩),
   (3, 7, ⟨(some 70), none, .load false 1 (.t 69)⟩),
   (4, 0, ⟨(some 71), none, .move (.t 7)⟩),
   (5, 16, ⟨(some 72), none, .nilCheck (.t 71)⟩),
   (6, 48, ⟨(some 73), none, .fieldAddr 0 (.t 72)⟩),
   (7, 112, ⟨(some 74), none, .load false 1 (.t 73)⟩),
   (8, 255, ⟨(some 75), none, .buildSlice [(.slice none 0 0)] 1 2 [(0, (.t 70)), (1, (.t 74))]⟩),
   (9, 511, ⟨(some 76), none, .call (.c (.func (.func 126) #[] #[])) [(.t 75)]⟩),
   (10, 1023, ⟨(some 8), none, .move (.t 76)⟩)] (some [1, 2, 6, 7, 8]))
 (.seq (.opsd [(0, 0, ⟨(some 77), none, .move (.t 6)⟩),
   (1, 1, ⟨(some 78), none, .nilCheck (.t 77)⟩),
   (2, 3, ⟨(some 79), none, .fieldAddr 1 (.t 78)⟩),
   (3, 7, ⟨(some 80), none, .load false 1 (.t 79)⟩),
   (4, 0, ⟨(some 81), none, .move (.t 7)⟩),
   (5, 16, ⟨(some 82), none, .nilCheck (.t 81)⟩),
   (6, 48, ⟨(some 83), none, .fieldAddr 1 (.t 82)⟩),
   (7, 112, ⟨(some 84), none, .load false 1 (.t 83)⟩),
   (8, 255, ⟨(some 85), none, .buildSlice [(.slice none 0 0)] 1 2 [(0, (.t 80)), (1, (.t 84))]⟩),
   (10, 0, ⟨(some 87), none, .move (.t 6)⟩),
   (11, 1024, ⟨(some 88), none, .nilCheck (.t 87)⟩),
   (12, 3072, ⟨(some 89), none, .fieldAddr 2 (.t 88)⟩),
   (13, 7168, ⟨(some 90), none, .load false 1 (.t 89)⟩),
   (14, 0, ⟨(some 91), none, .move (.t 7)⟩),
   (15, 16384, ⟨(some 92), none, .nilCheck (.t 91)⟩),
   (16, 49152, ⟨(some 93), none, .fieldAddr 2 (.t 92)⟩),
   (17, 114688, ⟨(some 94), none, .load false 1 (.t 93)⟩),
   (18, 261120, ⟨(some 95), none, .buildSlice [(.slice none 0 0)] 1 2 [(0, (.t 90)), (1, (.t 94))]⟩),
   (9, 511, ⟨(some 86), none, .call (.c (.func (.func 127) #[] #[])) [(.t 85)]⟩),
   (19, 524287, ⟨(some 96), none, .call (.c (.func (.func 127) #[] #[])) [(.t 95)]⟩),
   (20, 1048575, ⟨(some 9), none, .move (.t 86)⟩),
   (21, 2097151, ⟨(some 10), none, .move (.t 96)⟩)] (some [1, 2, 6, 7, 8, 9, 10]))
 (.seq (.ops [⟨(some 97), none, .move (.t 6)⟩,
   ⟨(some 98), none, .call (.c (.func (.func 98) #[] #[])) [(.t 97)]⟩,
   ⟨(some 99), none, .move (.t 7)⟩,
   ⟨(some 100), none, .call (.c (.func (.func 98) #[] #[])) [(.t 99)]⟩,
   ⟨(some 101), none, .bin .add 3 (.t 98) (.t 100)⟩,
   ⟨(some 102), none, .bin .quo 3 (.t 101) (.c (.int .i64 2))⟩,
   ⟨(some 11), none, .move (.t 102)⟩] (some [1, 2, 6, 7, 8, 9, 10, 11]))
 (.seq (.seq (.ops [⟨(some 103), none, .move (.t 6)⟩,
   ⟨(some 104), none, .call (.c (.func (.func 86) #[] #[])) [(.t 103)]⟩] (some [1, 2, 6, 7, 8, 9, 10, 11, 104]))
 (.cond (.t 104)
  (.seq (.opsd [(0, 0, ⟨(some 105), none, .move (.t 6)⟩),
    (1, 0, ⟨(some 106), none, .move (.t 8)⟩),
    (2, 0, ⟨(some 107), none, .move (.t 11)⟩),
    (3, 6, ⟨(some 108), none, .slice 1 (.t 106) none (some (.t 107)) none⟩),
    (5, 0, ⟨(some 110), none, .move (.t 9)⟩),
    (6, 0, ⟨(some 111), none, .move (.t 11)⟩),
    (7, 96, ⟨(some 112), none, .slice 1 (.t 110) none (some (.t 111)) none⟩),
    (4, 14, ⟨(some 109), none, .call (.c (.func (.func 117) #[] #[])) [(.t 108)]⟩),
    (8, 254, ⟨(some 113), none, .call (.c (.func (.func 118) #[] #[])) [(.t 112)]⟩),
    (9, 510, ⟨(some 114), none, .build [(.slice none 0 0), (.slice none 0 0), (.slice none 0 0)] [(0, 1), (1, 1), (2, 1)] [(0, (.t 109)), (1, (.t 113))]⟩),
    (10, 1023, ⟨(some 115), none, .nilCheck (.t 105)⟩),
    (11, 2047, ⟨none, none, .store 3 (.t 115) (.t 114)⟩)] (some [1, 2, 7, 8, 9, 11]))
  (.seq (.opsd [(0, 0, ⟨(some 116), none, .move (.t 7)⟩),
    (1, 0, ⟨(some 117), none, .move (.t 8)⟩),
    (2, 0, ⟨(some 118), none, .move (.t 11)⟩),
    (3, 6, ⟨(some 119), none, .slice 1 (.t 117) (some (.t 118)) none none⟩),
    (5, 0, ⟨(some 121), none, .move (.t 9)⟩),
    (6, 0, ⟨(some 122), none, .move (.t 11)⟩),
    (7, 96, ⟨(some 123), none, .slice 1 (.t 121) (some (.t 122)) none none⟩),
    (4, 14, ⟨(some 120), none, .call (.c (.func (.func 117) #[] #[])) [(.t 119)]⟩),
    (8, 254, ⟨(some 124), none, .call (.c (.func (.func 118) #[] #[])) [(.t 123)]⟩),
    (9, 510, ⟨(some 125), none, .build [(.slice none 0 0), (.slice none 0 0), (.slice none 0 0)] [(0, 1), (1, 1), (2, 1)] [(0, (.t 120)), (1, (.t 124))]⟩),
    (10, 1023, ⟨(some 126), none, .nilCheck (.t 116)⟩),
    (11, 2047, ⟨none, none, .store 3 (.t 126) (.t 125)⟩)] (some [1, 2, 8, 11]))
  (.seq (.opsd [(0, 0, ⟨(some 127), none, .move (.t 1)⟩),
    (1, 1, ⟨(some 128), none, .nilCheck (.t 127)⟩),
    (2, 3, ⟨(some 129), none, .fieldAddr 0 (.t 128)⟩),
    (3, 7, ⟨(some 130), none, .load false 1 (.t 129)⟩),
    (4, 0, ⟨(some 131), none, .move (.t 2)⟩),
    (5, 16, ⟨(some 132), none, .bin .sub 3 (.t 131) (.c (.int .i64 1))⟩),
    (6, 0, ⟨(some 133), none, .move (.t 8)⟩),
    (7, 0, ⟨(some 134), none, .move (.t 11)⟩),
    (8, 192, ⟨(some 135), none, .indexAddr 1 (.t 133) (.t 134)⟩),
    (9, 448, ⟨(some 136), none, .load false 1 (.t 135)⟩),
    (10, 1023, ⟨(some 137), none, .indexAddr 1 (.t 130) (.t 132)⟩),
    (11, 2047, ⟨none, none, .store 1 (.t 137) (.t 136)⟩)] (some []))
  .ret)))
  .skip))
 (.seq (.opsd [(0, 0, ⟨(some 138), none, .move (.t 6)⟩),
   (1, 0, ⟨(some 139), none, .move (.t 8)⟩),
   (2, 0, ⟨(some 140), none, .move (.t 11)⟩),
   (3, 4, ⟨(some 141), none, .bin .sub 3 (.t 140) (.c (.int .i64 1))⟩),
   (4, 14, ⟨(some 142), none, .slice 1 (.t 139) none (some (.t 141)) none⟩),
   (6, 0, ⟨(some 144), none, .move (.t 10)⟩),
   (7, 0, ⟨(some 145), none, .move (.t 11)⟩),
   (8, 192, ⟨(some 146), none, .slice 1 (.t 144) none (some (.t 145)) none⟩),
   (5, 30, ⟨(some 143), none, .call (.c (.func (.func 117) #[] #[])) [(.t 142)]⟩),
   (9, 510, ⟨(some 147), none, .call (.c (.func (.func 118) #[] #[])) [(.t 146)]⟩),
   (10, 1022, ⟨(some 148), none, .build [(.slice none 0 0), (.slice none 0 0), (.slice none 0 0)] [(0, 1), (1, 1), (2, 1)] [(0, (.t 143)), (2, (.t 147))]⟩),
   (11, 2047, ⟨(some 149), none, .nilCheck (.t 138)⟩),
   (12, 4095, ⟨none, none, .store 3 (.t 149) (.t 148)⟩)] (some [1, 2, 7, 8, 10, 11]))
 (.seq (.opsd [(0, 0, ⟨(some 150), none, .move (.t 7)⟩),
   (1, 0, ⟨(some 151), none, .move (.t 8)⟩),
   (2, 0, ⟨(some 152), none, .move (.t 11)⟩),
   (3, 6, ⟨(some 153), none, .slice 1 (.t 151) (some (.t 152)) none none⟩),
   (5, 0, ⟨(some 155), none, .move (.t 10)⟩),
   (6, 0, ⟨(some 156), none, .move (.t 11)⟩),
   (7, 96, ⟨(some 157), none, .slice 1 (.t 155) (some (.t 156)) none none⟩),
   (4, 14, ⟨(some 154), none, .call (.c (.func (.func 117) #[] #[])) [(.t 153)]⟩),
   (8, 254, ⟨(some 158), none, .call (.c (.func (.func 118) #[] #[])) [(.t 157)]⟩),
   (9, 510, ⟨(some 159), none, .build [(.slice none 0 0), (.slice none 0 0), (.slice none 0 0)] [(0, 1), (1, 1), (2, 1)] [(0, (.t 154)), (2, (.t 158))]⟩),
   (10, 1023, ⟨(some 160), none, .nilCheck (.t 150)⟩),
   (11, 2047, ⟨none, none, .store 3 (.t 160) (.t 159)⟩)] (some [1, 2, 8, 11]))
 (.opsd [(0, 0, ⟨(some 161), none, .move (.t 1)⟩),
   (1, 1, ⟨(some 162), none, .nilCheck (.t 161)⟩),
   (2, 3, ⟨(some 163), none, .fieldAddr 0 (.t 162)⟩),
   (3, 7, ⟨(some 164), none, .load false 1 (.t 163)⟩),
   (4, 0, ⟨(some 165), none, .move (.t 2)⟩),
   (5, 16, ⟨(some 166), none, .bin .sub 3 (.t 165) (.c (.int .i64 1))⟩),
   (6, 0, ⟨(some 167), none, .move (.t 8)⟩),
   (7, 0, ⟨(some 168), none, .move (.t 11)⟩),
   (8, 128, ⟨(some 169), none, .bin .sub 3 (.t 168) (.c (.int .i64 1))⟩),
   (9, 448, ⟨(some 170), none, .indexAddr 1 (.t 167) (.t 169)⟩),
   (10, 960, ⟨(some 171), none, .load false 1 (.t 170)⟩),
   (11, 2047, ⟨(some 172), none, .indexAddr 1 (.t 164) (.t 166)⟩),
   (12, 4095, ⟨none, none, .store 1 (.t 172) (.t 171)⟩)] (some []))))))))))), []⟩

/-- slices.Insert[[]string,string] -/
def x115 : XDecl := .code ⟨3, 
 (.seq (.ops [⟨(some 6), none, .move (.c (.slice none 0 0))⟩] (some [0, 1, 2]))
 (.seq (.ops [⟨(some 10), none, .move (.t 0)⟩,
   ⟨(some 11), none, .move (.t 1)⟩,
   ⟨(some 12), none, .slice 1 (.t 10) (some (.t 11)) none none⟩] (some [0, 1, 2]))
 (.seq (.ops [⟨(some 13), none, .move (.t 2)⟩,
   ⟨(some 14), none, .len (.t 13)⟩,
   ⟨(some 7), none, .move (.t 14)⟩] (some [0, 1, 2, 7]))
 (.seq (.seq (.ops [⟨(some 15), none, .move (.t 7)⟩,
   ⟨(some 16), none, .bin .eql 3 (.t 15) (.c (.int .i64 0))⟩] (some [0, 1, 2, 7, 16]))
 (.cond (.t 16)
  (.seq (.ops [⟨(some 17), none, .move (.t 0)⟩,
    ⟨(some 6), none, .move (.t 17)⟩] (some [6]))
  .ret)
  .skip))
 (.seq (.ops [⟨(some 18), none, .move (.t 0)⟩,
   ⟨(some 19), none, .len (.t 18)⟩,
   ⟨(some 8), none, .move (.t 19)⟩] (some [0, 1, 2, 7, 8]))
 (.seq (.seq (.ops [⟨(some 20), none, .move (.t 1)⟩,
   ⟨(some 21), none, .move (.t 8)⟩,
   ⟨(some 22), none, .bin .eql 3 (.t 20) (.t 21)⟩] (some [0, 1, 2, 7, 8, 22]))
 (.cond (.t 22)
  (.seq (.ops [⟨(some 23), none, .move (.t 0)⟩,
    ⟨(some 24), none, .move (.t 2)⟩,
    ⟨(some 25), none, .append 1 16 [(.string .empty)] (.t 23) (.t 24)⟩,
    ⟨(some 6), none, .move (.t 25)⟩] (some [6]))
  .ret)
  .skip))
 (.seq (.seq (.ops [⟨(some 26), none, .move (.t 8)⟩,
   ⟨(some 27), none, .move (.t 7)⟩,
   ⟨(some 28), none, .bin .add 3 (.t 26) (.t 27)⟩,
   ⟨(some 29), none, .move (.t 0)⟩,
   ⟨(some 30), none, .cap (.t 29)⟩,
   ⟨(some 31), none, .bin .gtr 3 (.t 28) (.t 30)⟩] (some [0, 1, 2, 7, 8, 31]))
 (.cond (.t 31)
  (.seq (.ops [⟨(some 32), none, .move (.t 0)⟩,
    ⟨(some 33), none, .move (.t 1)⟩,
    ⟨(some 34), none, .slice 1 (.t 32) none (some (.t 33)) none⟩,
    ⟨(some 35), none, .move (.t 8)⟩,
    ⟨(some 36), none, .move (.t 7)⟩,
    ⟨(some 37), none, .bin .add 3 (.t 35) (.t 36)⟩,
    ⟨(some 38), none, .move (.t 1)⟩,
    ⟨(some 39), none, .bin .sub 3 (.t 37) (.t 38)⟩,
    ⟨(some 40), none, .appendZeros 1 16 [(.string .empty)] (.t 34) (.t 39)⟩,
    ⟨(some 9), none, .move (.t 40)⟩] (some [0, 1, 2, 7, 9]))
  (.seq (.ops [⟨(some 41), none, .move (.t 9)⟩,
    ⟨(some 42), none, .move (.t 1)⟩,
    ⟨(some 43), none, .slice 1 (.t 41) (some (.t 42)) none none⟩,
    ⟨(some 44), none, .move (.t 2)⟩,
    ⟨(some 45), none, .copy 1 (.t 43) (.t 44)⟩] (some [0, 1, 7, 9]))
  (.seq (.opsd [(0, 0, ⟨(some 46), none, .move (.t 9)⟩),
    (1, 0, ⟨(some 47), none, .move (.t 1)⟩),
    (2, 0, ⟨(some 48), none, .move (.t 7)⟩),
    (3, 6, ⟨(some 49), none, .bin .add 3 (.t 47) (.t 48)⟩),
    (4, 15, ⟨(some 50), none, .slice 1 (.t 46) (some (.t 49)) none none⟩),
    (5, 0, ⟨(some 51), none, .move (.t 0)⟩),
    (6, 0, ⟨(some 52), none, .move (.t 1)⟩),
    (7, 96, ⟨(some 53), none, .slice 1 (.t 51) (some (.t 52)) none none⟩),
    (8, 255, ⟨(some 54), none, .copy 1 (.t 50) (.t 53)⟩)] (some [9]))
  (.seq (.ops [⟨(some 55), none, .move (.t 9)⟩,
    ⟨(some 6), none, .move (.t 55)⟩] (some [6]))
  .ret))))
  .skip))
 (.seq (.ops [⟨(some 56), none, .move (.t 0)⟩,
   ⟨(some 57), none, .move (.t 8)⟩,
   ⟨(some 58), none, .move (.t 7)⟩,
   ⟨(some 59), none, .bin .add 3 (.t 57) (.t 58)⟩,
   ⟨(some 60), none, .slice 1 (.t 56) none (some (.t 59)) none⟩,
   ⟨(some 0), none, .move (.t 60)⟩] (some [0, 1, 2, 7, 8]))
 (.seq (.seq (.ops [⟨(some 61), none, .move (.t 2)⟩,
   ⟨(some 62), none, .move (.t 0)⟩,
   ⟨(some 63), none, .move (.t 1)⟩,
   ⟨(some 64), none, .move (.t 7)⟩,
   ⟨(some 65), none, .bin .add 3 (.t 63) (.t 64)⟩,
   ⟨(some 66), none, .slice 1 (.t 62) (some (.t 65)) none none⟩,
   ⟨(some 67), none, .call (.c (.func (.func 128) #[] #[])) [(.t 61), (.t 66)]⟩,
   ⟨(some 68), none, .un .not (.t 67)⟩] (some [0, 1, 2, 7, 8, 68]))
 (.cond (.t 68)
  (.seq (.opsd [(0, 0, ⟨(some 69), none, .move (.t 0)⟩),
    (1, 0, ⟨(some 70), none, .move (.t 1)⟩),
    (2, 0, ⟨(some 71), none, .move (.t 7)⟩),
    (3, 6, ⟨(some 72), none, .bin .add 3 (.t 70) (.t 71)⟩),
    (4, 15, ⟨(some 73), none, .slice 1 (.t 69) (some (.t 72)) none none⟩),
    (5, 0, ⟨(some 74), none, .move (.t 0)⟩),
    (6, 0, ⟨(some 75), none, .move (.t 1)⟩),
    (7, 96, ⟨(some 76), none, .slice 1 (.t 74) (some (.t 75)) none none⟩),
    (8, 255, ⟨(some 77), none, .copy 1 (.t 73) (.t 76)⟩)] (some [0, 1, 2]))
  (.seq (.ops [⟨(some 78), none, .move (.t 0)⟩,
    ⟨(some 79), none, .move (.t 1)⟩,
    ⟨(some 80), none, .slice 1 (.t 78) (some (.t 79)) none none⟩,
    ⟨(some 81), none, .move (.t 2)⟩,
    ⟨(some 82), none, .copy 1 (.t 80) (.t 81)⟩] (some [0]))
  (.seq (.ops [⟨(some 83), none, .move (.t 0)⟩,
    ⟨(some 6), none, .move (.t 83)⟩] (some [6]))
  .ret)))
  .skip))
 (.seq (.ops [⟨(some 84), none, .move (.t 0)⟩,
   ⟨(some 85), none, .move (.t 8)⟩,
   ⟨(some 86), none, .slice 1 (.t 84) (some (.t 85)) none none⟩,
   ⟨(some 87), none, .move (.t 2)⟩,
   ⟨(some 88), none, .copy 1 (.t 86) (.t 87)⟩] (some [0, 1, 7]))
 (.seq (.ops [⟨(some 89), none, .move (.t 0)⟩,
   ⟨(some 90), none, .move (.t 1)⟩,
   ⟨(some 91), none, .slice 1 (.t 89) (some (.t 90)) none none⟩,
   ⟨(some 92), none, .move (.t 7)⟩,
   ⟨(some 93), none, .call (.c (.func (.func 129) #[] #[])) [(.t 91), (.t 92)]⟩] (some [0]))
 (.seq (.ops [⟨(some 94), none, .move (.t 0)⟩,
   ⟨(some 6), none, .move (.t 94)⟩] (some [6]))
 .ret)))))))))))), [.tmp 6]⟩

/-- slices.Insert[[]int,int] -/
def x116 : XDecl := .code ⟨3, 
 (.seq (.ops [⟨(some 6), none, .move (.c (.slice none 0 0))⟩] (some [0, 1, 2]))
 (.seq (.ops [⟨(some 10), none, .move (.t 0)⟩,
   ⟨(some 11), none, .move (.t 1)⟩,
   ⟨(some 12), none, .slice 1 (.t 10) (some (.t 11)) none none⟩] (some [0, 1, 2]))
 (.seq (.ops [⟨(some 13), none, .move (.t 2)⟩,
   ⟨(some 14), none, .len (.t 13)⟩,
   ⟨(some 7), none, .move (.t 14)⟩] (some [0, 1, 2, 7]))
 (.seq (.seq (.ops [⟨(some 15), none, .move (.t 7)⟩,
   ⟨(some 16), none, .bin .eql 3 (.t 15) (.c (.int .i64 0))⟩] (some [0, 1, 2, 7, 16]))
 (.cond (.t 16)
  (.seq (.ops [⟨(some 17), none, .move (.t 0)⟩,
    ⟨(some 6), none, .move (.t 17)⟩] (some [6]))
  .ret)
  .skip))
 (.seq (.ops [⟨(some 18), none, .move (.t 0)⟩,
   ⟨(some 19), none, .len (.t 18)⟩,
   ⟨(some 8), none, .move (.t 19)⟩] (some [0, 1, 2, 7, 8]))
 (.seq (.seq (.ops [⟨(some 20), none, .move (.t 1)⟩,
   ⟨(some 21), none, .move (.t 8)⟩,
   ⟨(some 22), none, .bin .eql 3 (.t 20) (.t 21)⟩] (some [0, 1, 2, 7, 8, 22]))
 (.cond (.t 22)
  (.seq (.ops [⟨(some 23), none, .move (.t 0)⟩,
    ⟨(some 24), none, .move (.t 2)⟩,
    ⟨(some 25), none, .append 1 8 [(.int .i64 0)] (.t 23) (.t 24)⟩,
    ⟨(some 6), none, .move (.t 25)⟩] (some [6]))
  .ret)
  .skip))
 (.seq (.seq (.ops [⟨(some 26), none, .move (.t 8)⟩,
   ⟨(some 27), none, .move (.t 7)⟩,
   ⟨(some 28), none, .bin .add 3 (.t 26) (.t 27)⟩,
   ⟨(some 29), none, .move (.t 0)⟩,
   ⟨(some 30), none, .cap (.t 29)⟩,
   ⟨(some 31), none, .bin .gtr 3 (.t 28) (.t 30)⟩] (some [0, 1, 2, 7, 8, 31]))
 (.cond (.t 31)
  (.seq (.ops [⟨(some 32), none, .move (.t 0)⟩,
    ⟨(some 33), none, .move (.t 1)⟩,
    ⟨(some 34), none, .slice 1 (.t 32) none (some (.t 33)) none⟩,
    ⟨(some 35), none, .move (.t 8)⟩,
    ⟨(some 36), none, .move (.t 7)⟩,
    ⟨(some 37), none, .bin .add 3 (.t 35) (.t 36)⟩,
    ⟨(some 38), none, .move (.t 1)⟩,
    ⟨(some 39), none, .bin .sub 3 (.t 37) (.t 38)⟩,
    ⟨(some 40), none, .appendZeros 1 8 [(.int .i64 0)] (.t 34) (.t 39)⟩,
    ⟨(some 9), none, .move (.t 40)⟩] (some [0, 1, 2, 7, 9]))
  (.seq (.ops [⟨(some 41), none, .move (.t 9)⟩,
    ⟨(some 42), none, .move (.t 1)⟩,
    ⟨(some 43), none, .slice 1 (.t 41) (some (.t 42)) none none⟩,
    ⟨(some 44), none, .move (.t 2)⟩,
    ⟨(some 45), none, .copy 1 (.t 43) (.t 44)⟩] (some [0, 1, 7, 9]))
  (.seq (.opsd [(0, 0, ⟨(some 46), none, .move (.t 9)⟩),
    (1, 0, ⟨(some 47), none, .move (.t 1)⟩),
    (2, 0, ⟨(some 48), none, .move (.t 7)⟩),
    (3, 6, ⟨(some 49), none, .bin .add 3 (.t 47) (.t 48)⟩),
    (4, 15, ⟨(some 50), none, .slice 1 (.t 46) (some (.t 49)) none none⟩),
    (5, 0, ⟨(some 51), none, .move (.t 0)⟩),
    (6, 0, ⟨(some 52), none, .move (.t 1)⟩),
    (7, 96, ⟨(some 53), none, .slice 1 (.t 51) (some (.t 52)) none none⟩),
    (8, 255, ⟨(some 54), none, .copy 1 (.t 50) (.t 53)⟩)] (some [9]))
  (.seq (.ops [⟨(some 55), none, .move (.t 9)⟩,
    ⟨(some 6), none, .move (.t 55)⟩] (some [6]))
  .ret))))
  .skip))
 (.seq (.ops [⟨(some 56), none, .move (.t 0)⟩,
   ⟨(some 57), none, .move (.t 8)⟩,
   ⟨(some 58), none, .move (.t 7)⟩,
   ⟨(some 59), none, .bin .add 3 (.t 57) (.t 58)⟩,
   ⟨(some 60), none, .slice 1 (.t 56) none (some (.t 59)) none⟩,
   ⟨(some 0), none, .move (.t 60)⟩] (some [0, 1, 2, 7, 8]))
 (.seq (.seq (.ops [⟨(some 61), none, .move (.t 2)⟩,
   ⟨(some 62), none, .move (.t 0)⟩,
   ⟨(some 63), none, .move (.t 1)⟩,
   ⟨(some 64), none, .move (.t 7)⟩,
   ⟨(some 65), none, .bin .add 3 (.t 63) (.t 64)⟩,
   ⟨(some 66), none, .slice 1 (.t 62) (some (.t 65)) none none⟩,
   ⟨(some 67), none, .call (.c (.func (.func 130) #[] #[])) [(.t 61), (.t 66)]⟩,
   ⟨(some 68), none, .un .not (.t 67)⟩] (some [0, 1, 2, 7, 8, 68]))
 (.cond (.t 68)
  (.seq (.opsd [(0, 0, ⟨(some 69), none, .move (.t 0)⟩),
    (1, 0, ⟨(some 70), none, .move (.t 1)⟩),
    (2, 0, ⟨(some 71), none, .move (.t 7)⟩),
    (3, 6, ⟨(some 72), none, .bin .add 3 (.t 70) (.t 71)⟩),
    (4, 15, ⟨(some 73), none, .slice 1 (.t 69) (some (.t 72)) none none⟩),
    (5, 0, ⟨(some 74), none, .move (.t 0)⟩),
    (6, 0, ⟨(some 75), none, .move (.t 1)⟩),
    (7, 96, ⟨(some 76), none, .slice 1 (.t 74) (some (.t 75)) none none⟩),
    (8, 255, ⟨(some 77), none, .copy 1 (.t 73) (.t 76)⟩)] (some [0, 1, 2]))
  (.seq (.ops [⟨(some 78), none, .move (.t 0)⟩,
    ⟨(some 79), none, .move (.t 1)⟩,
    ⟨(some 80), none, .slice 1 (.t 78) (some (.t 79)) none none⟩,
    ⟨(some 81), none, .move (.t 2)⟩,
    ⟨(some 82), none, .copy 1 (.t 80) (.t 81)⟩] (some [0]))
  (.seq (.ops [⟨(some 83), none, .move (.t 0)⟩,
    ⟨(some 6), none, .move (.t 83)⟩] (some [6]))
  .ret)))
  .skip))
 (.seq (.ops [⟨(some 84), none, .move (.t 0)⟩,
   ⟨(some 85), none, .move (.t 8)⟩,
   ⟨(some 86), none, .slice 1 (.t 84) (some (.t 85)) none none⟩,
   ⟨(some 87), none, .move (.t 2)⟩,
   ⟨(some 88), none, .copy 1 (.t 86) (.t 87)⟩] (some [0, 1, 7]))
 (.seq (.ops [⟨(some 89), none, .move (.t 0)⟩,
   ⟨(some 90), none, .move (.t 1)⟩,
   ⟨(some 91), none, .slice 1 (.t 89) (some (.t 90)) none none⟩,
   ⟨(some 92), none, .move (.t 7)⟩,
   ⟨(some 93), none, .call (.c (.func (.func 131) #[] #[])) [(.t 91), (.t 92)]⟩] (some [0]))
 (.seq (.ops [⟨(some 94), none, .move (.t 0)⟩,
   ⟨(some 6), none, .move (.t 94)⟩] (some [6]))
 .ret)))))))))))), [.tmp 6]⟩

/-- slices.Clone[[]string,string] -/
def x117 : XDecl := .code ⟨1, 
 (.seq (.ops [⟨(some 2), none, .move (.c (.slice none 0 0))⟩] (some [0]))
 (.seq (.seq (.ops [⟨(some 3), none, .move (.t 0)⟩,
   ⟨(some 4), none, .isNil .slice false (.t 3)⟩] (some [0, 4]))
 (.cond (.t 4)
  (.seq (.ops [⟨(some 2), none, .move (.c (.slice none 0 0))⟩] (some [2]))
  .ret)
  .skip))
 (.seq (.ops [⟨(some 5), none, .buildSlice [(.string .empty)] 1 0 []⟩,
   ⟨(some 6), none, .move (.t 0)⟩,
   ⟨(some 7), none, .append 1 16 [(.string .empty)] (.t 5) (.t 6)⟩,
   ⟨(some 2), none, .move (.t 7)⟩] (some [2]))
 .ret))), [.tmp 2]⟩

/-- slices.Clone[[]int,int] -/
def x118 : XDecl := .code ⟨1, 
 (.seq (.ops [⟨(some 2), none, .move (.c (.slice none 0 0))⟩] (some [0]))
 (.seq (.seq (.ops [⟨(some 3), none, .move (.t 0)⟩,
   ⟨(some 4), none, .isNil .slice false (.t 3)⟩] (some [0, 4]))
 (.cond (.t 4)
  (.seq (.ops [⟨(some 2), none, .move (.c (.slice none 0 0))⟩] (some [2]))
  .ret)
  .skip))
 (.seq (.ops [⟨(some 5), none, .buildSlice [(.int .i64 0)] 1 0 []⟩,
   ⟨(some 6), none, .move (.t 0)⟩,
   ⟨(some 7), none, .append 1 8 [(.int .i64 0)] (.t 5) (.t 6)⟩,
   ⟨(some 2), none, .move (.t 7)⟩] (some [2]))
 .ret))), [.tmp 2]⟩

/-- cmp.isNaN[string] -/
def x123 : XDecl := .code ⟨1, 
 (.seq (.ops [⟨(some 2), none, .move (.c (.bool false))⟩] (some [0]))
 (.seq (.ops [⟨(some 3), none, .move (.t 0)⟩,
   ⟨(some 4), none, .move (.t 0)⟩,
   ⟨(some 5), none, .bin .neq 9 (.t 3) (.t 4)⟩,
   ⟨(some 2), none, .move (.t 5)⟩] (some [2]))
 .ret)), [.tmp 2]⟩

/-- cloisonne/num.Place -/
def x124 : XDecl := .code ⟨1, 
 (.seq (.ops [⟨(some 2), none, .move (.c (.int .u64 0))⟩] (some [0]))
 (.seq (.ops [⟨(some 4), none, .move (.t 0)⟩,
   ⟨(some 5), none, .call (.c (.func (.func 90) #[] #[])) [(.t 4)]⟩,
   ⟨(some 3), none, .move (.t 5)⟩] (some [3]))
 (.seq (.block 0
  (.seq (.ops [⟨(some 7), none, .move (.t 3)⟩,
    ⟨(some 8), none, .bin .eql 25 (.t 7) (.c (.int .u64 9221120237041090561))⟩,
    ⟨(some 6), none, .move (.t 8)⟩] (some [3, 6]))
  (.cond (.t 6)
   (.seq (.ops [⟨(some 2), none, .move (.c (.int .u64 18437736874454810626))⟩] (some [2]))
   .ret)
   (.seq (.ops [⟨(some 10), none, .move (.t 3)⟩,
     ⟨(some 11), none, .bin .and 25 (.t 10) (.c (.int .u64 9223372036854775808))⟩,
     ⟨(some 12), none, .bin .neq 25 (.t 11) (.c (.int .u64 0))⟩,
     ⟨(some 9), none, .move (.t 12)⟩] (some [3, 9]))
   (.cond (.t 9)
    (.seq (.ops [⟨(some 13), none, .move (.t 3)⟩,
      ⟨(some 14), none, .bin .andNot 25 (.t 13) (.c (.int .u64 9223372036854775808))⟩,
      ⟨(some 15), none, .bin .sub 25 (.c (.int .u64 9218868437227405312)) (.t 14)⟩,
      ⟨(some 2), none, .move (.t 15)⟩] (some [2]))
    .ret)
    .skip)))))
 (.seq (.ops [⟨(some 16), none, .move (.t 3)⟩,
   ⟨(some 17), none, .bin .add 25 (.c (.int .u64 9218868437227405313)) (.t 16)⟩,
   ⟨(some 2), none, .move (.t 17)⟩] (some [2]))
 .ret)))), [.tmp 2]⟩

/-- (*cloisonne/tree.Tree).join -/
def x125 : XDecl := .code ⟨3, 
 (.seq (.ops [⟨(some 9), none, .move (.t 1)⟩,
   ⟨(some 10), none, .nilCheck (.t 9)⟩,
   ⟨(some 11), none, .fieldAddr 2 (.t 10)⟩,
   ⟨(some 12), none, .load false 1 (.t 11)⟩,
   ⟨(some 13), none, .move (.t 2)⟩,
   ⟨(some 14), none, .indexAddr 1 (.t 12) (.t 13)⟩,
   ⟨(some 15), none, .load false 1 (.t 14)⟩,
   ⟨(some 6), none, .move (.t 15)⟩] (some [0, 1, 2, 6]))
 (.seq (.opsd [(0, 0, ⟨(some 16), none, .move (.t 0)⟩),
   (1, 1, ⟨(some 17), none, .nilCheck (.t 16)⟩),
   (2, 3, ⟨(some 18), none, .fieldAddr 0 (.t 17)⟩),
   (3, 7, ⟨(some 19), none, .load false 1 (.t 18)⟩),
   (4, 0, ⟨(some 20), none, .move (.t 1)⟩),
   (5, 16, ⟨(some 21), none, .nilCheck (.t 20)⟩),
   (6, 48, ⟨(some 22), none, .fieldAddr 2 (.t 21)⟩),
   (7, 112, ⟨(some 23), none, .load false 1 (.t 22)⟩),
   (8, 0, ⟨(some 24), none, .move (.t 2)⟩),
   (9, 256, ⟨(some 25), none, .bin .sub 3 (.t 24) (.c (.int .i64 1))⟩),
   (10, 1008, ⟨(some 26), none, .indexAddr 1 (.t 23) (.t 25)⟩),
   (11, 2032, ⟨(some 27), none, .load false 1 (.t 26)⟩),
   (12, 4095, ⟨(some 28), none, .indexAddr 3 (.t 19) (.t 27)⟩),
   (13, 0, ⟨(some 29), none, .move (.t 0)⟩),
   (14, 8192, ⟨(some 30), none, .nilCheck (.t 29)⟩),
   (15, 24576, ⟨(some 31), none, .fieldAddr 0 (.t 30)⟩),
   (16, 57344, ⟨(some 32), none, .load false 1 (.t 31)⟩),
   (17, 0, ⟨(some 33), none, .move (.t 6)⟩),
   (18, 253952, ⟨(some 34), none, .indexAddr 3 (.t 32) (.t 33)⟩),
   (19, 516096, ⟨(some 35), none, .load true 3 (.t 34)⟩),
   (20, 0, ⟨(some 8), none, .alloc [(.slice none 0 0), (.slice none 0 0), (.slice none 0 0)]⟩),
   (21, 1056767, ⟨(some 7), none, .move (.t 28)⟩),
   (22, 4194303, ⟨none, none, .store 3 (.t 8) (.t 35)⟩)] (some [0, 1, 2, 6, 7, 8]))
 (.seq (.seq (.ops [⟨(some 36), none, .move (.t 7)⟩,
   ⟨(some 37), none, .call (.c (.func (.func 86) #[] #[])) [(.t 36)]⟩,
   ⟨(some 38), none, .un .not (.t 37)⟩] (some [0, 1, 2, 6, 7, 8, 38]))
 (.cond (.t 38)
  (.opsd [(0, 0, ⟨(some 39), none, .move (.t 7)⟩),
    (1, 0, ⟨(some 40), none, .move (.t 7)⟩),
    (2, 2, ⟨(some 41), none, .nilCheck (.t 40)⟩),
    (3, 6, ⟨(some 42), none, .fieldAddr 0 (.t 41)⟩),
    (4, 14, ⟨(some 43), none, .load false 1 (.t 42)⟩),
    (5, 0, ⟨(some 44), none, .move (.t 1)⟩),
    (6, 32, ⟨(some 45), none, .nilCheck (.t 44)⟩),
    (7, 96, ⟨(some 46), none, .fieldAddr 0 (.t 45)⟩),
    (8, 224, ⟨(some 47), none, .load false 1 (.t 46)⟩),
    (9, 0, ⟨(some 48), none, .move (.t 2)⟩),
    (10, 512, ⟨(some 49), none, .bin .sub 3 (.t 48) (.c (.int .i64 1))⟩),
    (11, 2016, ⟨(some 50), none, .indexAddr 1 (.t 47) (.t 49)⟩),
    (12, 4064, ⟨(some 51), none, .load false 1 (.t 50)⟩),
    (13, 8160, ⟨(some 52), none, .buildSlice [(.string .empty)] 1 1 [(0, (.t 51))]⟩),
    (14, 16382, ⟨(some 53), none, .append 1 16 [(.string .empty)] (.t 43) (.t 52)⟩),
    (15, 32767, ⟨(some 54), none, .nilCheck (.t 39)⟩),
    (16, 65535, ⟨(some 55), none, .fieldAddr 0 (.t 54)⟩),
    (17, 131071, ⟨none, none, .store 1 (.t 55) (.t 53)⟩)] (some [0, 1, 2, 6, 7, 8]))
  .skip))
 (.seq (.opsd [(0, 0, ⟨(some 56), none, .move (.t 7)⟩),
   (1, 0, ⟨(some 57), none, .move (.t 7)⟩),
   (2, 0, ⟨(some 58), none, .move (.t 7)⟩),
   (3, 0, ⟨(some 59), none, .move (.t 7)⟩),
   (4, 8, ⟨(some 60), none, .nilCheck (.t 59)⟩),
   (5, 24, ⟨(some 61), none, .fieldAddr 0 (.t 60)⟩),
   (6, 56, ⟨(some 62), none, .load false 1 (.t 61)⟩),
   (7, 0, ⟨(some 63), none, .fieldAddr 0 (.t 8)⟩),
   (8, 128, ⟨(some 64), none, .load false 1 (.t 63)⟩),
   (10, 0, ⟨(some 66), none, .move (.t 7)⟩),
   (11, 1024, ⟨(some 67), none, .nilCheck (.t 66)⟩),
   (12, 3072, ⟨(some 68), none, .fieldAddr 1 (.t 67)⟩),
   (13, 7168, ⟨(some 69), none, .load false 1 (.t 68)⟩),
   (14, 0, ⟨(some 70), none, .fieldAddr 1 (.t 8)⟩),
   (15, 16384, ⟨(some 71), none, .load false 1 (.t 70)⟩),
   (17, 0, ⟨(some 73), none, .move (.t 7)⟩),
   (18, 131072, ⟨(some 74), none, .nilCheck (.t 73)⟩),
   (19, 393216, ⟨(some 75), none, .fieldAddr 2 (.t 74)⟩),
   (20, 917504, ⟨(some 76), none, .load false 1 (.t 75)⟩),
   (21, 0, ⟨(some 77), none, .fieldAddr 2 (.t 8)⟩),
   (22, 2097152, ⟨(some 78), none, .load false 1 (.t 77)⟩),
   (9, 504, ⟨(some 65), none, .append 1 16 [(.string .empty)] (.t 62) (.t 64)⟩),
   (16, 65528, ⟨(some 72), none, .append 1 8 [(.int .i64 0)] (.t 69) (.t 71)⟩),
   (23, 8388600, ⟨(some 79), none, .append 1 8 [(.int .i64 0)] (.t 76) (.t 78)⟩),
   (24, 16777209, ⟨(some 80), none, .nilCheck (.t 56)⟩),
   (25, 33554425, ⟨(some 81), none, .fieldAddr 0 (.t 80)⟩),
   (26, 67108857, ⟨none, none, .store 1 (.t 81) (.t 65)⟩),
   (27, 134217723, ⟨(some 82), none, .nilCheck (.t 57)⟩),
   (28, 268435451, ⟨(some 83), none, .fieldAddr 1 (.t 82)⟩),
   (29, 536870907, ⟨none, none, .store 1 (.t 83) (.t 72)⟩),
   (30, 1073741823, ⟨(some 84), none, .nilCheck (.t 58)⟩),
   (31, 2147483647, ⟨(some 85), none, .fieldAddr 2 (.t 84)⟩),
   (32, 4294967295, ⟨none, none, .store 1 (.t 85) (.t 79)⟩)] (some [0, 1, 2, 6]))
 (.seq (.opsd [(0, 0, ⟨(some 86), none, .move (.t 1)⟩),
   (1, 0, ⟨(some 87), none, .move (.t 1)⟩),
   (2, 0, ⟨(some 88), none, .move (.t 1)⟩),
   (3, 4, ⟨(some 89), none, .nilCheck (.t 88)⟩),
   (4, 12, ⟨(some 90), none, .fieldAddr 0 (.t 89)⟩),
   (5, 28, ⟨(some 91), none, .load false 1 (.t 90)⟩),
   (6, 0, ⟨(some 92), none, .move (.t 2)⟩),
   (7, 64, ⟨(some 93), none, .bin .sub 3 (.t 92) (.c (.int .i64 1))⟩),
   (8, 0, ⟨(some 94), none, .move (.t 2)⟩),
   (10, 0, ⟨(some 96), none, .move (.t 1)⟩),
   (11, 1024, ⟨(some 97), none, .nilCheck (.t 96)⟩),
   (12, 3072, ⟨(some 98), none, .fieldAddr 2 (.t 97)⟩),
   (13, 7168, ⟨(some 99), none, .load false 1 (.t 98)⟩),
   (14, 0, ⟨(some 100), none, .move (.t 2)⟩),
   (15, 0, ⟨(some 101), none, .move (.t 2)⟩),
   (16, 32768, ⟨(some 102), none, .bin .add 3 (.t 101) (.c (.int .i64 1))⟩),
   (9, 508, ⟨(some 95), none, .call (.c (.func (.func 112) #[] #[])) [(.t 91), (.t 93), (.t 94)]⟩),
   (17, 131068, ⟨(some 103), none, .call (.c (.func (.func 113) #[] #[])) [(.t 99), (.t 100), (.t 102)]⟩),
   (18, 262141, ⟨(some 104), none, .nilCheck (.t 86)⟩),
   (19, 524285, ⟨(some 105), none, .fieldAddr 0 (.t 104)⟩),
   (20, 1048573, ⟨none, none, .store 1 (.t 105) (.t 95)⟩),
   (21, 2097151, ⟨(some 106), none, .nilCheck (.t 87)⟩),
   (22, 4194303, ⟨(some 107), none, .fieldAddr 2 (.t 106)⟩),
   (23, 8388607, ⟨none, none, .store 1 (.t 107) (.t 103)⟩)] (some [0, 6]))
 (.ops [⟨(some 108), none, .move (.t 0)⟩,
   ⟨(some 109), none, .move (.t 6)⟩,
   ⟨(some 110), none, .call (.c (.func (.func 95) #[] #[])) [(.t 108), (.t 109)]⟩] (some []))))))), []⟩

/-- slices.Concat[[]string,string] -/
def x126 : XDecl := .code ⟨1, 
 (.seq (.ops [⟨(some 2), none, .move (.c (.slice none 0 0))⟩] (some [0]))
 (.seq (.ops [⟨(some 3), none, .move (.c (.int .i64 0))⟩] (some [0, 3]))
 (.seq (.seq (.ops [⟨(some 9), none, .move (.t 0)⟩,
   ⟨(some 10), none, .len (.t 9)⟩,
   ⟨(some 11), none, .move (.c (.int .i64 0))⟩] (some [0, 3, 9, 10, 11]))
 (.block 0
  (.loop
   (.seq (.ops [⟨(some 12), none, .bin .lss 3 (.t 11) (.t 10)⟩] (some [0, 3, 9, 10, 11, 12]))
   (.seq (.cond (.t 12)
    .skip
    (.exit 0))
   (.seq (.block 1
    (.seq (.ops [⟨(some 13), none, .indexAddr 1 (.t 9) (.t 11)⟩,
      ⟨(some 14), none, .load false 1 (.t 13)⟩,
      ⟨(some 5), none, .move (.t 14)⟩] (some [0, 3, 5, 9, 10, 11]))
    (.seq (.ops [⟨(some 15), none, .move (.t 3)⟩,
      ⟨(some 16), none, .move (.t 5)⟩,
      ⟨(some 17), none, .len (.t 16)⟩,
      ⟨(some 18), none, .bin .add 3 (.t 15) (.t 17)⟩,
      ⟨(some 3), none, .move (.t 18)⟩] (some [0, 3, 9, 10, 11]))
    (.seq (.ops [⟨(some 19), none, .move (.t 3)⟩,
      ⟨(some 20), none, .bin .lss 3 (.t 19) (.c (.int .i64 0))⟩] (some [0, 3, 9, 10, 11, 20]))
    (.cond (.t 20)
     (.ops [⟨(some 21), none, .fail⟩,
       ⟨none, none, .fail⟩] (some [0, 3, 9, 10, 11]))
     .skip)))))
   (.ops [⟨(some 22), none, .bin .add 3 (.t 11) (.c (.int .i64 1))⟩,
     ⟨(some 11), none, .move (.t 22)⟩] (some [0, 3, 9, 10, 11]))))))))
 (.seq (.ops [⟨(some 23), none, .move (.t 3)⟩,
   ⟨(some 24), none, .call (.c (.func (.func 134) #[] #[])) [(.c (.slice none 0 0)), (.t 23)]⟩,
   ⟨(some 6), none, .move (.t 24)⟩] (some [0, 6]))
 (.seq (.seq (.ops [⟨(some 25), none, .move (.t 0)⟩,
   ⟨(some 26), none, .len (.t 25)⟩,
   ⟨(some 27), none, .move (.c (.int .i64 0))⟩] (some [6, 25, 26, 27]))
 (.block 2
  (.loop
   (.seq (.ops [⟨(some 28), none, .bin .lss 3 (.t 27) (.t 26)⟩] (some [6, 25, 26, 27, 28]))
   (.seq (.cond (.t 28)
    .skip
    (.exit 2))
   (.seq (.block 3
    (.seq (.ops [⟨(some 29), none, .indexAddr 1 (.t 25) (.t 27)⟩,
      ⟨(some 30), none, .load false 1 (.t 29)⟩,
      ⟨(some 8), none, .move (.t 30)⟩] (some [6, 8, 25, 26, 27]))
    (.ops [⟨(some 31), none, .move (.t 6)⟩,
      ⟨(some 32), none, .move (.t 8)⟩,
      ⟨(some 33), none, .append 1 16 [(.string .empty)] (.t 31) (.t 32)⟩,
      ⟨(some 6), none, .move (.t 33)⟩] (some [6, 25, 26, 27]))))
   (.ops [⟨(some 34), none, .bin .add 3 (.t 27) (.c (.int .i64 1))⟩,
     ⟨(some 27), none, .move (.t 34)⟩] (some [6, 25, 26, 27]))))))))
 (.seq (.ops [⟨(some 35), none, .move (.t 6)⟩,
   ⟨(some 2), none, .move (.t 35)⟩] (some [2]))
 .ret)))))), [.tmp 2]⟩

/-- slices.Concat[[]int,int] -/
def x127 : XDecl := .code ⟨1, 
 (.seq (.ops [⟨(some 2), none, .move (.c (.slice none 0 0))⟩] (some [0]))
 (.seq (.ops [⟨(some 3), none, .move (.c (.int .i64 0))⟩] (some [0, 3]))
 (.seq (.seq (.ops [⟨(some 9), none, .move (.t 0)⟩,
   ⟨(some 10), none, .len (.t 9)⟩,
   ⟨(some 11), none, .move (.c (.int .i64 0))⟩] (some [0, 3, 9, 10, 11]))
 (.block 0
  (.loop
   (.seq (.ops [⟨(some 12), none, .bin .lss 3 (.t 11) (.t 10)⟩] (some [0, 3, 9, 10, 11, 12]))
   (.seq (.cond (.t 12)
    .skip
    (.exit 0))
   (.seq (.block 1
    (.seq (.ops [⟨(some 13), none, .indexAddr 1 (.t 9) (.t 11)⟩,
      ⟨(some 14), none, .load false 1 (.t 13)⟩,
      ⟨(some 5), none, .move (.t 14)⟩] (some [0, 3, 5, 9, 10, 11]))
    (.seq (.ops [⟨(some 15), none, .move (.t 3)⟩,
      ⟨(some 16), none, .move (.t 5)⟩,
      ⟨(some 17), none, .len (.t 16)⟩,
      ⟨(some 18), none, .bin .add 3 (.t 15) (.t 17)⟩,
      ⟨(some 3), none, .move (.t 18)⟩] (some [0, 3, 9, 10, 11]))
    (.seq (.ops [⟨(some 19), none, .move (.t 3)⟩,
      ⟨(some 20), none, .bin .lss 3 (.t 19) (.c (.int .i64 0))⟩] (some [0, 3, 9, 10, 11, 20]))
    (.cond (.t 20)
     (.ops [⟨(some 21), none, .fail⟩,
       ⟨none, none, .fail⟩] (some [0, 3, 9, 10, 11]))
     .skip)))))
   (.ops [⟨(some 22), none, .bin .add 3 (.t 11) (.c (.int .i64 1))⟩,
     ⟨(some 11), none, .move (.t 22)⟩] (some [0, 3, 9, 10, 11]))))))))
 (.seq (.ops [⟨(some 23), none, .move (.t 3)⟩,
   ⟨(some 24), none, .call (.c (.func (.func 135) #[] #[])) [(.c (.slice none 0 0)), (.t 23)]⟩,
   ⟨(some 6), none, .move (.t 24)⟩] (some [0, 6]))
 (.seq (.seq (.ops [⟨(some 25), none, .move (.t 0)⟩,
   ⟨(some 26), none, .len (.t 25)⟩,
   ⟨(some 27), none, .move (.c (.int .i64 0))⟩] (some [6, 25, 26, 27]))
 (.block 2
  (.loop
   (.seq (.ops [⟨(some 28), none, .bin .lss 3 (.t 27) (.t 26)⟩] (some [6, 25, 26, 27, 28]))
   (.seq (.cond (.t 28)
    .skip
    (.exit 2))
   (.seq (.block 3
    (.seq (.ops [⟨(some 29), none, .indexAddr 1 (.t 25) (.t 27)⟩,
      ⟨(some 30), none, .load false 1 (.t 29)⟩,
      ⟨(some 8), none, .move (.t 30)⟩] (some [6, 8, 25, 26, 27]))
    (.ops [⟨(some 31), none, .move (.t 6)⟩,
      ⟨(some 32), none, .move (.t 8)⟩,
      ⟨(some 33), none, .append 1 8 [(.int .i64 0)] (.t 31) (.t 32)⟩,
      ⟨(some 6), none, .move (.t 33)⟩] (some [6, 25, 26, 27]))))
   (.ops [⟨(some 34), none, .bin .add 3 (.t 27) (.c (.int .i64 1))⟩,
     ⟨(some 27), none, .move (.t 34)⟩] (some [6, 25, 26, 27]))))))))
 (.seq (.ops [⟨(some 35), none, .move (.t 6)⟩,
   ⟨(some 2), none, .move (.t 35)⟩] (some [2]))
 .ret)))))), [.tmp 2]⟩

-- 128 slices.overlaps[string]: no body
def x128 : XDecl := .ext 128

/-- slices.rotateRight[string] -/
def x129 : XDecl := .code ⟨2, 
 (.ops [⟨(some 4), none, .move (.t 0)⟩,
   ⟨(some 5), none, .move (.t 0)⟩,
   ⟨(some 6), none, .len (.t 5)⟩,
   ⟨(some 7), none, .move (.t 1)⟩,
   ⟨(some 8), none, .bin .sub 3 (.t 6) (.t 7)⟩,
   ⟨(some 9), none, .call (.c (.func (.func 136) #[] #[])) [(.t 4), (.t 8)]⟩] (some [])), []⟩

-- 130 slices.overlaps[int]: no body
def x130 : XDecl := .ext 130

/-- slices.rotateRight[int] -/
def x131 : XDecl := .code ⟨2, 
 (.ops [⟨(some 4), none, .move (.t 0)⟩,
   ⟨(some 5), none, .move (.t 0)⟩,
   ⟨(some 6), none, .len (.t 5)⟩,
   ⟨(some 7), none, .move (.t 1)⟩,
   ⟨(some 8), none, .bin .sub 3 (.t 6) (.t 7)⟩,
   ⟨(some 9), none, .call (.c (.func (.func 137) #[] #[])) [(.t 4), (.t 8)]⟩] (some [])), []⟩

/-- slices.Grow[[]string,string] -/
def x134 : XDecl := .code ⟨2, 
 (.seq (.ops [⟨(some 4), none, .move (.c (.slice none 0 0))⟩] (some [0, 1]))
 (.seq (.seq (.ops [⟨(some 5), none, .move (.t 1)⟩,
   ⟨(some 6), none, .bin .lss 3 (.t 5) (.c (.int .i64 0))⟩] (some [0, 1, 6]))
 (.cond (.t 6)
  (.ops [⟨(some 7), none, .fail⟩,
    ⟨none, none, .fail⟩] (some [0, 1]))
  .skip))
 (.seq (.seq (.ops [⟨(some 8), none, .move (.t 1)⟩,
   ⟨(some 9), none, .move (.t 0)⟩,
   ⟨(some 10), none, .cap (.t 9)⟩,
   ⟨(some 11), none, .move (.t 0)⟩,
   ⟨(some 12), none, .len (.t 11)⟩,
   ⟨(some 13), none, .bin .sub 3 (.t 10) (.t 12)⟩,
   ⟨(some 14), none, .bin .sub 3 (.t 8) (.t 13)⟩,
   ⟨(some 1), none, .move (.t 14)⟩] (some [0, 1]))
 (.seq (.ops [⟨(some 15), none, .move (.t 1)⟩,
   ⟨(some 16), none, .bin .gtr 3 (.t 15) (.c (.int .i64 0))⟩] (some [0, 1, 16]))
 (.cond (.t 16)
  (.ops [⟨(some 17), none, .move (.t 0)⟩,
    ⟨(some 18), none, .move (.t 0)⟩,
    ⟨(some 19), none, .cap (.t 18)⟩,
    ⟨(some 20), none, .slice 1 (.t 17) none (some (.t 19)) none⟩,
    ⟨(some 21), none, .move (.t 1)⟩,
    ⟨(some 22), none, .appendZeros 1 16 [(.string .empty)] (.t 20) (.t 21)⟩,
    ⟨(some 23), none, .move (.t 0)⟩,
    ⟨(some 24), none, .len (.t 23)⟩,
    ⟨(some 25), none, .slice 1 (.t 22) none (some (.t 24)) none⟩,
    ⟨(some 0), none, .move (.t 25)⟩] (some [0]))
  .skip)))
 (.seq (.ops [⟨(some 26), none, .move (.t 0)⟩,
   ⟨(some 4), none, .move (.t 26)⟩] (some [4]))
 .ret)))), [.tmp 4]⟩

/-- slices.Grow[[]int,int] -/
def x135 : XDecl := .code ⟨2, 
 (.seq (.ops [⟨(some 4), none, .move (.c (.slice none 0 0))⟩] (some [0, 1]))
 (.seq (.seq (.ops [⟨(some 5), none, .move (.t 1)⟩,
   ⟨(some 6), none, .bin .lss 3 (.t 5) (.c (.int .i64 0))⟩] (some [0, 1, 6]))
 (.cond (.t 6)
  (.ops [⟨(some 7), none, .fail⟩,
    ⟨none, none, .fail⟩] (some [0, 1]))
  .skip))
 (.seq (.seq (.ops [⟨(some 8), none, .move (.t 1)⟩,
   ⟨(some 9), none, .move (.t 0)⟩,
   ⟨(some 10), none, .cap (.t 9)⟩,
   ⟨(some 11), none, .move (.t 0)⟩,
   ⟨(some 12), none, .len (.t 11)⟩,
   ⟨(some 13), none, .bin .sub 3 (.t 10) (.t 12)⟩,
   ⟨(some 14), none, .bin .sub 3 (.t 8) (.t 13)⟩,
   ⟨(some 1), none, .move (.t 14)⟩] (some [0, 1]))
 (.seq (.ops [⟨(some 15), none, .move (.t 1)⟩,
   ⟨(some 16), none, .bin .gtr 3 (.t 15) (.c (.int .i64 0))⟩] (some [0, 1, 16]))
 (.cond (.t 16)
  (.ops [⟨(some 17), none, .move (.t 0)⟩,
    ⟨(some 18), none, .move (.t 0)⟩,
    ⟨(some 19), none, .cap (.t 18)⟩,
    ⟨(some 20), none, .slice 1 (.t 17) none (some (.t 19)) none⟩,
    ⟨(some 21), none, .move (.t 1)⟩,
    ⟨(some 22), none, .appendZeros 1 8 [(.int .i64 0)] (.t 20) (.t 21)⟩,
    ⟨(some 23), none, .move (.t 0)⟩,
    ⟨(some 24), none, .len (.t 23)⟩,
    ⟨(some 25), none, .slice 1 (.t 22) none (some (.t 24)) none⟩,
    ⟨(some 0), none, .move (.t 25)⟩] (some [0]))
  .skip)))
 (.seq (.ops [⟨(some 26), none, .move (.t 0)⟩,
   ⟨(some 4), none, .move (.t 26)⟩] (some [4]))
 .ret)))), [.tmp 4]⟩

/-- slices.rotateLeft[string] -/
def x136 : XDecl := .code ⟨2, 
 (.seq (.ops [⟨(some 4), none, .move (.t 0)⟩,
   ⟨(some 5), none, .move (.t 1)⟩,
   ⟨(some 6), none, .slice 1 (.t 4) none (some (.t 5)) none⟩,
   ⟨(some 7), none, .call (.c (.func (.func 140) #[] #[])) [(.t 6)]⟩] (some [0, 1]))
 (.seq (.ops [⟨(some 8), none, .move (.t 0)⟩,
   ⟨(some 9), none, .move (.t 1)⟩,
   ⟨(some 10), none, .slice 1 (.t 8) (some (.t 9)) none none⟩,
   ⟨(some 11), none, .call (.c (.func (.func 140) #[] #[])) [(.t 10)]⟩] (some [0]))
 (.ops [⟨(some 12), none, .move (.t 0)⟩,
   ⟨(some 13), none, .call (.c (.func (.func 140) #[] #[])) [(.t 12)]⟩] (some [])))), []⟩

/-- slices.rotateLeft[int] -/
def x137 : XDecl := .code ⟨2, 
 (.seq (.ops [⟨(some 4), none, .move (.t 0)⟩,
   ⟨(some 5), none, .move (.t 1)⟩,
   ⟨(some 6), none, .slice 1 (.t 4) none (some (.t 5)) none⟩,
   ⟨(some 7), none, .call (.c (.func (.func 141) #[] #[])) [(.t 6)]⟩] (some [0, 1]))
 (.seq (.ops [⟨(some 8), none, .move (.t 0)⟩,
   ⟨(some 9), none, .move (.t 1)⟩,
   ⟨(some 10), none, .slice 1 (.t 8) (some (.t 9)) none none⟩,
   ⟨(some 11), none, .call (.c (.func (.func 141) #[] #[])) [(.t 10)]⟩] (some [0]))
 (.ops [⟨(some 12), none, .move (.t 0)⟩,
   ⟨(some 13), none, .call (.c (.func (.func 141) #[] #[])) [(.t 12)]⟩] (some [])))), []⟩

/-- slices.Reverse[[]string,string] -/
def x140 : XDecl := .code ⟨1, 
 (.seq (.ops [⟨(some 4), none, .move (.t 0)⟩,
   ⟨(some 5), none, .len (.t 4)⟩,
   ⟨(some 6), none, .bin .sub 3 (.t 5) (.c (.int .i64 1))⟩,
   ⟨(some 2), none, .move (.c (.int .i64 0))⟩,
   ⟨(some 3), none, .move (.t 6)⟩] (some [0, 2, 3]))
 (.block 0
  (.loop
   (.seq (.seq (.ops [⟨(some 7), none, .move (.t 2)⟩,
     ⟨(some 8), none, .move (.t 3)⟩,
     ⟨(some 9), none, .bin .lss 3 (.t 7) (.t 8)⟩] (some [0, 2, 3, 9]))
   (.cond (.t 9)
    .skip
    (.exit 0)))
   (.seq (.block 1
    (.opsd [(0, 0, ⟨(some 14), none, .move (.t 0)⟩),
      (1, 0, ⟨(some 15), none, .move (.t 2)⟩),
      (2, 0, ⟨(some 16), none, .move (.t 0)⟩),
      (3, 0, ⟨(some 17), none, .move (.t 3)⟩),
      (4, 0, ⟨(some 18), none, .move (.t 0)⟩),
      (5, 0, ⟨(some 19), none, .move (.t 3)⟩),
      (6, 48, ⟨(some 20), none, .indexAddr 1 (.t 18) (.t 19)⟩),
      (7, 112, ⟨(some 21), none, .load false 1 (.t 20)⟩),
      (8, 0, ⟨(some 22), none, .move (.t 0)⟩),
      (9, 0, ⟨(some 23), none, .move (.t 2)⟩),
      (10, 768, ⟨(some 24), none, .indexAddr 1 (.t 22) (.t 23)⟩),
      (11, 1792, ⟨(some 25), none, .load false 1 (.t 24)⟩),
      (12, 4083, ⟨(some 26), none, .indexAddr 1 (.t 14) (.t 15)⟩),
      (13, 8179, ⟨none, none, .store 1 (.t 26) (.t 21)⟩),
      (14, 16383, ⟨(some 27), none, .indexAddr 1 (.t 16) (.t 17)⟩),
      (15, 32767, ⟨none, none, .store 1 (.t 27) (.t 25)⟩)] (some [0, 2, 3])))
   (.ops [⟨(some 10), none, .move (.t 2)⟩,
     ⟨(some 11), none, .bin .add 3 (.t 10) (.c (.int .i64 1))⟩,
     ⟨(some 12), none, .move (.t 3)⟩,
     ⟨(some 13), none, .bin .sub 3 (.t 12) (.c (.int .i64 1))⟩,
     ⟨(some 2), none, .move (.t 11)⟩,
     ⟨(some 3), none, .move (.t 13)⟩] (some [0, 2, 3]))))))), []⟩

/-- slices.Reverse[[]int,int] -/
def x141 : XDecl := .code ⟨1, 
 (.seq (.ops [⟨(some 4), none, .move (.t 0)⟩,
   ⟨(some 5), none, .len (.t 4)⟩,
   ⟨(some 6), none, .bin .sub 3 (.t 5) (.c (.int .i64 1))⟩,
   ⟨(some 2), none, .move (.c (.int .i64 0))⟩,
   ⟨(some 3), none, .move (.t 6)⟩] (some [0, 2, 3]))
 (.block 0
  (.loop
   (.seq (.seq (.ops [⟨(some 7), none, .move (.t 2)⟩,
     ⟨(some 8), none, .move (.t 3)⟩,
     ⟨(some 9), none, .bin .lss 3 (.t 7) (.t 8)⟩] (some [0, 2, 3, 9]))
   (.cond (.t 9)
    .skip
    (.exit 0)))
   (.seq (.block 1
    (.opsd [(0, 0, ⟨(some 14), none, .move (.t 0)⟩),
      (1, 0, ⟨(some 15), none, .move (.t 2)⟩),
      (2, 0, ⟨(some 16), none, .move (.t 0)⟩),
      (3, 0, ⟨(some 17), none, .move (.t 3)⟩),
      (4, 0, ⟨(some 18), none, .move (.t 0)⟩),
      (5, 0, ⟨(some 19), none, .move (.t 3)⟩),
      (6, 48, ⟨(some 20), none, .indexAddr 1 (.t 18) (.t 19)⟩),
      (7, 112, ⟨(some 21), none, .load false 1 (.t 20)⟩),
      (8, 0, ⟨(some 22), none, .move (.t 0)⟩),
      (9, 0, ⟨(some 23), none, .move (.t 2)⟩),
      (10, 768, ⟨(some 24), none, .indexAddr 1 (.t 22) (.t 23)⟩),
      (11, 1792, ⟨(some 25), none, .load false 1 (.t 24)⟩),
      (12, 4083, ⟨(some 26), none, .indexAddr 1 (.t 14) (.t 15)⟩),
      (13, 8179, ⟨none, none, .store 1 (.t 26) (.t 21)⟩),
      (14, 16383, ⟨(some 27), none, .indexAddr 1 (.t 16) (.t 17)⟩),
      (15, 32767, ⟨none, none, .store 1 (.t 27) (.t 25)⟩)] (some [0, 2, 3])))
   (.ops [⟨(some 10), none, .move (.t 2)⟩,
     ⟨(some 11), none, .bin .add 3 (.t 10) (.c (.int .i64 1))⟩,
     ⟨(some 12), none, .move (.t 3)⟩,
     ⟨(some 13), none, .bin .sub 3 (.t 12) (.c (.int .i64 1))⟩,
     ⟨(some 2), none, .move (.t 11)⟩,
     ⟨(some 3), none, .move (.t 13)⟩] (some [0, 2, 3]))))))), []⟩

def tab : FuncId → Option XDecl
  | 3 => some x3
  | 5 => some x5
  | 6 => some x6
  | 7 => some x7
  | 8 => some x8
  | 9 => some x9
  | 10 => some x10
  | 11 => some x11
  | 12 => some x12
  | 13 => some x13
  | 14 => some x14
  | 15 => some x15
  | 16 => some x16
  | 17 => some x17
  | 18 => some x18
  | 19 => some x19
  | 23 => some x23
  | 28 => some x28
  | 29 => some x29
  | 30 => some x30
  | 31 => some x31
  | 32 => some x32
  | 33 => some x33
  | 34 => some x34
  | 35 => some x35
  | 36 => some x36
  | 37 => some x37
  | 38 => some x38
  | 39 => some x39
  | 40 => some x40
  | 41 => some x41
  | 42 => some x42
  | 43 => some x43
  | 44 => some x44
  | 45 => some x45
  | 46 => some x46
  | 48 => some x48
  | 50 => some x50
  | 52 => some x52
  | 53 => some x53
  | 54 => some x54
  | 55 => some x55
  | 56 => some x56
  | 57 => some x57
  | 58 => some x58
  | 59 => some x59
  | 60 => some x60
  | 61 => some x61
  | 62 => some x62
  | 63 => some x63
  | 64 => some x64
  | 65 => some x65
  | 66 => some x66
  | 67 => some x67
  | 68 => some x68
  | 69 => some x69
  | 71 => some x71
  | 77 => some x77
  | 78 => some x78
  | 79 => some x79
  | 80 => some x80
  | 81 => some x81
  | 82 => some x82
  | 83 => some x83
  | 84 => some x84
  | 85 => some x85
  | 86 => some x86
  | 87 => some x87
  | 88 => some x88
  | 89 => some x89
  | 90 => some x90
  | 91 => some x91
  | 92 => some x92
  | 93 => some x93
  | 94 => some x94
  | 95 => some x95
  | 96 => some x96
  | 97 => some x97
  | 98 => some x98
  | 99 => some x99
  | 106 => some x106
  | 107 => some x107
  | 108 => some x108
  | 109 => some x109
  | 110 => some x110
  | 111 => some x111
  | 112 => some x112
  | 113 => some x113
  | 114 => some x114
  | 115 => some x115
  | 116 => some x116
  | 117 => some x117
  | 118 => some x118
  | 123 => some x123
  | 124 => some x124
  | 125 => some x125
  | 126 => some x126
  | 127 => some x127
  | 128 => some x128
  | 129 => some x129
  | 130 => some x130
  | 131 => some x131
  | 134 => some x134
  | 135 => some x135
  | 136 => some x136
  | 137 => some x137
  | 140 => some x140
  | 141 => some x141
  | _ => none

theorem is3 : FnIs Tryz.prog 3 x3 := ⟨Tryz.f3, _, Tryz.func3, by kernel_rfl, rfl, by kernel_rfl, by decide, by kernel_rfl⟩
theorem is5 : FnIs Tryz.prog 5 x5 := ⟨Tryz.f5, _, Tryz.func5, by kernel_rfl, rfl, by kernel_rfl, by decide, by kernel_rfl⟩
theorem is6 : FnIs Tryz.prog 6 x6 := ⟨Tryz.f6, _, Tryz.func6, by kernel_rfl, rfl, by kernel_rfl, by decide, by kernel_rfl⟩
theorem is7 : FnIs Tryz.prog 7 x7 := ⟨Tryz.f7, _, Tryz.func7, by kernel_rfl, rfl, by kernel_rfl, by decide, by kernel_rfl⟩
theorem is8 : FnIs Tryz.prog 8 x8 := ⟨Tryz.f8, _, Tryz.func8, by kernel_rfl, rfl, by kernel_rfl, by decide, by kernel_rfl⟩
theorem is9 : FnIs Tryz.prog 9 x9 := ⟨Tryz.f9, _, Tryz.func9, by kernel_rfl, rfl, by kernel_rfl, by decide, by kernel_rfl⟩
theorem is10 : FnIs Tryz.prog 10 x10 := ⟨Tryz.f10, _, Tryz.func10, by kernel_rfl, rfl, by kernel_rfl, by decide, by kernel_rfl⟩
theorem is11 : FnIs Tryz.prog 11 x11 := ⟨Tryz.f11, _, Tryz.func11, by kernel_rfl, rfl, by kernel_rfl, by decide, by kernel_rfl⟩
theorem is12 : FnIs Tryz.prog 12 x12 := ⟨Tryz.f12, _, Tryz.func12, by kernel_rfl, rfl, by kernel_rfl, by decide, by kernel_rfl⟩
theorem is13 : FnIs Tryz.prog 13 x13 := ⟨Tryz.f13, _, Tryz.func13, by kernel_rfl, rfl, by kernel_rfl, by decide, by kernel_rfl⟩
theorem is14 : FnIs Tryz.prog 14 x14 := ⟨Tryz.f14, _, Tryz.func14, by kernel_rfl, rfl, by kernel_rfl, by decide, by kernel_rfl⟩
theorem is15 : FnIs Tryz.prog 15 x15 := ⟨Tryz.f15, _, Tryz.func15, by kernel_rfl, rfl, by kernel_rfl, by decide, by kernel_rfl⟩
theorem is16 : FnIs Tryz.prog 16 x16 := ⟨Tryz.f16, _, Tryz.func16, by kernel_rfl, rfl, by kernel_rfl, by decide, by kernel_rfl⟩
theorem is17 : FnIs Tryz.prog 17 x17 := ⟨Tryz.f17, _, Tryz.func17, by kernel_rfl, rfl, by kernel_rfl, by decide, by kernel_rfl⟩
theorem is18 : FnIs Tryz.prog 18 x18 := ⟨Tryz.f18, _, Tryz.func18, by kernel_rfl, rfl, by kernel_rfl, by decide, by kernel_rfl⟩
theorem is19 : FnIs Tryz.prog 19 x19 := ⟨Tryz.f19, _, Tryz.func19, by kernel_rfl, rfl, by kernel_rfl, by decide, by kernel_rfl⟩
theorem is23 : FnIs Tryz.prog 23 x23 := ⟨Tryz.f23, _, Tryz.func23, by kernel_rfl, rfl, by kernel_rfl, by decide, by kernel_rfl⟩
theorem is28 : FnIs Tryz.prog 28 x28 := ⟨Tryz.f28, _, Tryz.func28, by kernel_rfl, rfl, by kernel_rfl, by decide, by kernel_rfl⟩
theorem is29 : FnIs Tryz.prog 29 x29 := ⟨Tryz.f29, _, Tryz.func29, by kernel_rfl, rfl, by kernel_rfl, by decide, by kernel_rfl⟩
theorem is30 : FnIs Tryz.prog 30 x30 := ⟨Tryz.f30, _, Tryz.func30, by kernel_rfl, rfl, by kernel_rfl, by decide, by kernel_rfl⟩
theorem is31 : FnIs Tryz.prog 31 x31 := ⟨Tryz.f31, _, Tryz.func31, by kernel_rfl, rfl, by kernel_rfl, by decide, by kernel_rfl⟩
theorem is32 : FnIs Tryz.prog 32 x32 := ⟨Tryz.f32, _, Tryz.func32, by kernel_rfl, rfl, by kernel_rfl, by decide, by kernel_rfl⟩
theorem is33 : FnIs Tryz.prog 33 x33 := ⟨Tryz.f33, _, Tryz.func33, by kernel_rfl, rfl, by kernel_rfl, by decide, by kernel_rfl⟩
theorem is34 : FnIs Tryz.prog 34 x34 := ⟨Tryz.f34, _, Tryz.func34, by kernel_rfl, rfl, by kernel_rfl, by decide, by kernel_rfl⟩
theorem is35 : FnIs Tryz.prog 35 x35 := ⟨Tryz.f35, _, Tryz.func35, by kernel_rfl, rfl, by kernel_rfl, by decide, by kernel_rfl⟩
theorem is36 : FnIs Tryz.prog 36 x36 := ⟨Tryz.f36, _, Tryz.func36, by kernel_rfl, rfl, by kernel_rfl, by decide, by kernel_rfl⟩
theorem is37 : FnIs Tryz.prog 37 x37 := ⟨Tryz.f37, _, Tryz.func37, by kernel_rfl, rfl, by kernel_rfl, by decide, by kernel_rfl⟩
theorem is38 : FnIs Tryz.prog 38 x38 := ⟨Tryz.f38, _, Tryz.func38, by kernel_rfl, rfl, by kernel_rfl, by decide, by kernel_rfl⟩
theorem is39 : FnIs Tryz.prog 39 x39 := ⟨Tryz.f39, _, Tryz.func39, by kernel_rfl, rfl, by kernel_rfl, by decide, by kernel_rfl⟩
theorem is40 : FnIs Tryz.prog 40 x40 := ⟨Tryz.f40, _, Tryz.func40, by kernel_rfl, rfl, by kernel_rfl, by decide, by kernel_rfl⟩
theorem is41 : FnIs Tryz.prog 41 x41 := ⟨Tryz.f41, _, Tryz.func41, by kernel_rfl, rfl, by kernel_rfl, by decide, by kernel_rfl⟩
theorem is42 : FnIs Tryz.prog 42 x42 := ⟨Tryz.f42, _, Tryz.func42, by kernel_rfl, rfl, by kernel_rfl, by decide, by kernel_rfl⟩
theorem is43 : FnIs Tryz.prog 43 x43 := ⟨Tryz.f43, _, Tryz.func43, by kernel_rfl, rfl, by kernel_rfl, by decide, by kernel_rfl⟩
theorem is44 : FnIs Tryz.prog 44 x44 := ⟨Tryz.f44, _, Tryz.func44, by kernel_rfl, rfl, by kernel_rfl, by decide, by kernel_rfl⟩
theorem is45 : FnIs Tryz.prog 45 x45 := ⟨Tryz.f45, _, Tryz.func45, by kernel_rfl, rfl, by kernel_rfl, by decide, by kernel_rfl⟩
theorem is46 : FnIs Tryz.prog 46 x46 := ⟨Tryz.f46, _, Tryz.func46, by kernel_rfl, rfl, by kernel_rfl, by decide, by kernel_rfl⟩
theorem is48 : FnIs Tryz.prog 48 x48 := rfl
theorem is50 : FnIs Tryz.prog 50 x50 := ⟨Tryz.f50, _, Tryz.func50, by kernel_rfl, rfl, by kernel_rfl, by decide, by kernel_rfl⟩
theorem is52 : FnIs Tryz.prog 52 x52 := ⟨Tryz.f52, _, Tryz.func52, by kernel_rfl, rfl, by kernel_rfl, by decide, by kernel_rfl⟩
theorem is53 : FnIs Tryz.prog 53 x53 := ⟨Tryz.f53, _, Tryz.func53, by kernel_rfl, rfl, by kernel_rfl, by decide, by kernel_rfl⟩
theorem is54 : FnIs Tryz.prog 54 x54 := ⟨Tryz.f54, _, Tryz.func54, by kernel_rfl, rfl, by kernel_rfl, by decide, by kernel_rfl⟩
theorem is55 : FnIs Tryz.prog 55 x55 := ⟨Tryz.f55, _, Tryz.func55, by kernel_rfl, rfl, by kernel_rfl, by decide, by kernel_rfl⟩
theorem is56 : FnIs Tryz.prog 56 x56 := ⟨Tryz.f56, _, Tryz.func56, by kernel_rfl, rfl, by kernel_rfl, by decide, by kernel_rfl⟩
theorem is57 : FnIs Tryz.prog 57 x57 := ⟨Tryz.f57, _, Tryz.func57, by kernel_rfl, rfl, by kernel_rfl, by decide, by kernel_rfl⟩
theorem is58 : FnIs Tryz.prog 58 x58 := ⟨Tryz.f58, _, Tryz.func58, by kernel_rfl, rfl, by kernel_rfl, by decide, by kernel_rfl⟩
theorem is59 : FnIs Tryz.prog 59 x59 := ⟨Tryz.f59, _, Tryz.func59, by kernel_rfl, rfl, by kernel_rfl, by decide, by kernel_rfl⟩
theorem is60 : FnIs Tryz.prog 60 x60 := ⟨Tryz.f60, _, Tryz.func60, by kernel_rfl, rfl, by kernel_rfl, by decide, by kernel_rfl⟩
theorem is61 : FnIs Tryz.prog 61 x61 := ⟨Tryz.f61, _, Tryz.func61, by kernel_rfl, rfl, by kernel_rfl, by decide, by kernel_rfl⟩
theorem is62 : FnIs Tryz.prog 62 x62 := ⟨Tryz.f62, _, Tryz.func62, by kernel_rfl, rfl, by kernel_rfl, by decide, by kernel_rfl⟩
theorem is63 : FnIs Tryz.prog 63 x63 := ⟨Tryz.f63, _, Tryz.func63, by kernel_rfl, rfl, by kernel_rfl, by decide, by kernel_rfl⟩
theorem is64 : FnIs Tryz.prog 64 x64 := ⟨Tryz.f64, _, Tryz.func64, by kernel_rfl, rfl, by kernel_rfl, by decide, by kernel_rfl⟩
theorem is65 : FnIs Tryz.prog 65 x65 := ⟨Tryz.f65, _, Tryz.func65, by kernel_rfl, rfl, by kernel_rfl, by decide, by kernel_rfl⟩
theorem is66 : FnIs Tryz.prog 66 x66 := ⟨Tryz.f66, _, Tryz.func66, by kernel_rfl, rfl, by kernel_rfl, by decide, by kernel_rfl⟩
theorem is67 : FnIs Tryz.prog 67 x67 := ⟨Tryz.f67, _, Tryz.func67, by kernel_rfl, rfl, by kernel_rfl, by decide, by kernel_rfl⟩
theorem is68 : FnIs Tryz.prog 68 x68 := ⟨Tryz.f68, _, Tryz.func68, by kernel_rfl, rfl, by kernel_rfl, by decide, by kernel_rfl⟩
theorem is69 : FnIs Tryz.prog 69 x69 := ⟨Tryz.f69, _, Tryz.func69, by kernel_rfl, rfl, by kernel_rfl, by decide, by kernel_rfl⟩
theorem is71 : FnIs Tryz.prog 71 x71 := rfl
theorem is77 : FnIs Tryz.prog 77 x77 := ⟨Tryz.f77, _, Tryz.func77, by kernel_rfl, rfl, by kernel_rfl, by decide, by kernel_rfl⟩
theorem is78 : FnIs Tryz.prog 78 x78 := ⟨Tryz.f78, _, Tryz.func78, by kernel_rfl, rfl, by kernel_rfl, by decide, by kernel_rfl⟩
theorem is79 : FnIs Tryz.prog 79 x79 := ⟨Tryz.f79, _, Tryz.func79, by kernel_rfl, rfl, by kernel_rfl, by decide, by kernel_rfl⟩
theorem is80 : FnIs Tryz.prog 80 x80 := ⟨Tryz.f80, _, Tryz.func80, by kernel_rfl, rfl, by kernel_rfl, by decide, by kernel_rfl⟩
theorem is81 : FnIs Tryz.prog 81 x81 := ⟨Tryz.f81, _, Tryz.func81, by kernel_rfl, rfl, by kernel_rfl, by decide, by kernel_rfl⟩
theorem is82 : FnIs Tryz.prog 82 x82 := ⟨Tryz.f82, _, Tryz.func82, by kernel_rfl, rfl, by kernel_rfl, by decide, by kernel_rfl⟩
theorem is83 : FnIs Tryz.prog 83 x83 := ⟨Tryz.f83, _, Tryz.func83, by kernel_rfl, rfl, by kernel_rfl, by decide, by kernel_rfl⟩
theorem is84 : FnIs Tryz.prog 84 x84 := ⟨Tryz.f84, _, Tryz.func84, by kernel_rfl, rfl, by kernel_rfl, by decide, by kernel_rfl⟩
theorem is85 : FnIs Tryz.prog 85 x85 := ⟨Tryz.f85, _, Tryz.func85, by kernel_rfl, rfl, by kernel_rfl, by decide, by kernel_rfl⟩
theorem is86 : FnIs Tryz.prog 86 x86 := ⟨Tryz.f86, _, Tryz.func86, by kernel_rfl, rfl, by kernel_rfl, by decide, by kernel_rfl⟩
theorem is87 : FnIs Tryz.prog 87 x87 := ⟨Tryz.f87, _, Tryz.func87, by kernel_rfl, rfl, by kernel_rfl, by decide, by kernel_rfl⟩
theorem is88 : FnIs Tryz.prog 88 x88 := ⟨Tryz.f88, _, Tryz.func88, by kernel_rfl, rfl, by kernel_rfl, by decide, by kernel_rfl⟩
theorem is89 : FnIs Tryz.prog 89 x89 := ⟨Tryz.f89, _, Tryz.func89, by kernel_rfl, rfl, by kernel_rfl, by decide, by kernel_rfl⟩
theorem is90 : FnIs Tryz.prog 90 x90 := ⟨Tryz.f90, _, Tryz.func90, by kernel_rfl, rfl, by kernel_rfl, by decide, by kernel_rfl⟩
theorem is91 : FnIs Tryz.prog 91 x91 := ⟨Tryz.f91, _, Tryz.func91, by kernel_rfl, rfl, by kernel_rfl, by decide, by kernel_rfl⟩
theorem is92 : FnIs Tryz.prog 92 x92 := ⟨Tryz.f92, _, Tryz.func92, by kernel_rfl, rfl, by kernel_rfl, by decide, by kernel_rfl⟩
theorem is93 : FnIs Tryz.prog 93 x93 := ⟨Tryz.f93, _, Tryz.func93, by kernel_rfl, rfl, by kernel_rfl, by decide, by kernel_rfl⟩
theorem is94 : FnIs Tryz.prog 94 x94 := ⟨Tryz.f94, _, Tryz.func94, by kernel_rfl, rfl, by kernel_rfl, by decide, by kernel_rfl⟩
theorem is95 : FnIs Tryz.prog 95 x95 := ⟨Tryz.f95, _, Tryz.func95, by kernel_rfl, rfl, by kernel_rfl, by decide, by kernel_rfl⟩
theorem is96 : FnIs Tryz.prog 96 x96 := ⟨Tryz.f96, _, Tryz.func96, by kernel_rfl, rfl, by kernel_rfl, by decide, by kernel_rfl⟩
theorem is97 : FnIs Tryz.prog 97 x97 := ⟨Tryz.f97, _, Tryz.func97, by kernel_rfl, rfl, by kernel_rfl, by decide, by kernel_rfl⟩
theorem is98 : FnIs Tryz.prog 98 x98 := ⟨Tryz.f98, _, Tryz.func98, by kernel_rfl, rfl, by kernel_rfl, by decide, by kernel_rfl⟩
theorem is99 : FnIs Tryz.prog 99 x99 := ⟨Tryz.f99, _, Tryz.func99, by kernel_rfl, rfl, by kernel_rfl, by decide, by kernel_rfl⟩
theorem is106 : FnIs Tryz.prog 106 x106 := ⟨Tryz.f106, _, Tryz.func106, by kernel_rfl, rfl, by kernel_rfl, by decide, by kernel_rfl⟩
theorem is107 : FnIs Tryz.prog 107 x107 := ⟨Tryz.f107, _, Tryz.func107, by kernel_rfl, rfl, by kernel_rfl, by decide, by kernel_rfl⟩
theorem is108 : FnIs Tryz.prog 108 x108 := ⟨Tryz.f108, _, Tryz.func108, by kernel_rfl, rfl, by kernel_rfl, by decide, by kernel_rfl⟩
theorem is109 : FnIs Tryz.prog 109 x109 := ⟨Tryz.f109, _, Tryz.func109, by kernel_rfl, rfl, by kernel_rfl, by decide, by kernel_rfl⟩
theorem is110 : FnIs Tryz.prog 110 x110 := ⟨Tryz.f110, _, Tryz.func110, by kernel_rfl, rfl, by kernel_rfl, by decide, by kernel_rfl⟩
theorem is111 : FnIs Tryz.prog 111 x111 := ⟨Tryz.f111, _, Tryz.func111, by kernel_rfl, rfl, by kernel_rfl, by decide, by kernel_rfl⟩
theorem is112 : FnIs Tryz.prog 112 x112 := ⟨Tryz.f112, _, Tryz.func112, by kernel_rfl, rfl, by kernel_rfl, by decide, by kernel_rfl⟩
theorem is113 : FnIs Tryz.prog 113 x113 := ⟨Tryz.f113, _, Tryz.func113, by kernel_rfl, rfl, by kernel_rfl, by decide, by kernel_rfl⟩
theorem is114 : FnIs Tryz.prog 114 x114 := ⟨Tryz.f114, _, Tryz.func114, by kernel_rfl, rfl, by kernel_rfl, by decide, by kernel_rfl⟩
theorem is115 : FnIs Tryz.prog 115 x115 := ⟨Tryz.f115, _, Tryz.func115, by kernel_rfl, rfl, by kernel_rfl, by decide, by kernel_rfl⟩
theorem is116 : FnIs Tryz.prog 116 x116 := ⟨Tryz.f116, _, Tryz.func116, by kernel_rfl, rfl, by kernel_rfl, by decide, by kernel_rfl⟩
theorem is117 : FnIs Tryz.prog 117 x117 := ⟨Tryz.f117, _, Tryz.func117, by kernel_rfl, rfl, by kernel_rfl, by decide, by kernel_rfl⟩
theorem is118 : FnIs Tryz.prog 118 x118 := ⟨Tryz.f118, _, Tryz.func118, by kernel_rfl, rfl, by kernel_rfl, by decide, by kernel_rfl⟩
theorem is123 : FnIs Tryz.prog 123 x123 := ⟨Tryz.f123, _, Tryz.func123, by kernel_rfl, rfl, by kernel_rfl, by decide, by kernel_rfl⟩
theorem is124 : FnIs Tryz.prog 124 x124 := ⟨Tryz.f124, _, Tryz.func124, by kernel_rfl, rfl, by kernel_rfl, by decide, by kernel_rfl⟩
theorem is125 : FnIs Tryz.prog 125 x125 := ⟨Tryz.f125, _, Tryz.func125, by kernel_rfl, rfl, by kernel_rfl, by decide, by kernel_rfl⟩
theorem is126 : FnIs Tryz.prog 126 x126 := ⟨Tryz.f126, _, Tryz.func126, by kernel_rfl, rfl, by kernel_rfl, by decide, by kernel_rfl⟩
theorem is127 : FnIs Tryz.prog 127 x127 := ⟨Tryz.f127, _, Tryz.func127, by kernel_rfl, rfl, by kernel_rfl, by decide, by kernel_rfl⟩
theorem is128 : FnIs Tryz.prog 128 x128 := rfl
theorem is129 : FnIs Tryz.prog 129 x129 := ⟨Tryz.f129, _, Tryz.func129, by kernel_rfl, rfl, by kernel_rfl, by decide, by kernel_rfl⟩
theorem is130 : FnIs Tryz.prog 130 x130 := rfl
theorem is131 : FnIs Tryz.prog 131 x131 := ⟨Tryz.f131, _, Tryz.func131, by kernel_rfl, rfl, by kernel_rfl, by decide, by kernel_rfl⟩
theorem is134 : FnIs Tryz.prog 134 x134 := ⟨Tryz.f134, _, Tryz.func134, by kernel_rfl, rfl, by kernel_rfl, by decide, by kernel_rfl⟩
theorem is135 : FnIs Tryz.prog 135 x135 := ⟨Tryz.f135, _, Tryz.func135, by kernel_rfl, rfl, by kernel_rfl, by decide, by kernel_rfl⟩
theorem is136 : FnIs Tryz.prog 136 x136 := ⟨Tryz.f136, _, Tryz.func136, by kernel_rfl, rfl, by kernel_rfl, by decide, by kernel_rfl⟩
theorem is137 : FnIs Tryz.prog 137 x137 := ⟨Tryz.f137, _, Tryz.func137, by kernel_rfl, rfl, by kernel_rfl, by decide, by kernel_rfl⟩
theorem is140 : FnIs Tryz.prog 140 x140 := ⟨Tryz.f140, _, Tryz.func140, by kernel_rfl, rfl, by kernel_rfl, by decide, by kernel_rfl⟩
theorem is141 : FnIs Tryz.prog 141 x141 := ⟨Tryz.f141, _, Tryz.func141, by kernel_rfl, rfl, by kernel_rfl, by decide, by kernel_rfl⟩

theorem tab_is : ∀ f d, tab f = some d → FnIs Tryz.prog f d := by
  intro f d h
  unfold tab at h
  split at h
  · cases h; exact is3
  · cases h; exact is5
  · cases h; exact is6
  · cases h; exact is7
  · cases h; exact is8
  · cases h; exact is9
  · cases h; exact is10
  · cases h; exact is11
  · cases h; exact is12
  · cases h; exact is13
  · cases h; exact is14
  · cases h; exact is15
  · cases h; exact is16
  · cases h; exact is17
  · cases h; exact is18
  · cases h; exact is19
  · cases h; exact is23
  · cases h; exact is28
  · cases h; exact is29
  · cases h; exact is30
  · cases h; exact is31
  · cases h; exact is32
  · cases h; exact is33
  · cases h; exact is34
  · cases h; exact is35
  · cases h; exact is36
  · cases h; exact is37
  · cases h; exact is38
  · cases h; exact is39
  · cases h; exact is40
  · cases h; exact is41
  · cases h; exact is42
  · cases h; exact is43
  · cases h; exact is44
  · cases h; exact is45
  · cases h; exact is46
  · cases h; exact is48
  · cases h; exact is50
  · cases h; exact is52
  · cases h; exact is53
  · cases h; exact is54
  · cases h; exact is55
  · cases h; exact is56
  · cases h; exact is57
  · cases h; exact is58
  · cases h; exact is59
  · cases h; exact is60
  · cases h; exact is61
  · cases h; exact is62
  · cases h; exact is63
  · cases h; exact is64
  · cases h; exact is65
  · cases h; exact is66
  · cases h; exact is67
  · cases h; exact is68
  · cases h; exact is69
  · cases h; exact is71
  · cases h; exact is77
  · cases h; exact is78
  · cases h; exact is79
  · cases h; exact is80
  · cases h; exact is81
  · cases h; exact is82
  · cases h; exact is83
  · cases h; exact is84
  · cases h; exact is85
  · cases h; exact is86
  · cases h; exact is87
  · cases h; exact is88
  · cases h; exact is89
  · cases h; exact is90
  · cases h; exact is91
  · cases h; exact is92
  · cases h; exact is93
  · cases h; exact is94
  · cases h; exact is95
  · cases h; exact is96
  · cases h; exact is97
  · cases h; exact is98
  · cases h; exact is99
  · cases h; exact is106
  · cases h; exact is107
  · cases h; exact is108
  · cases h; exact is109
  · cases h; exact is110
  · cases h; exact is111
  · cases h; exact is112
  · cases h; exact is113
  · cases h; exact is114
  · cases h; exact is115
  · cases h; exact is116
  · cases h; exact is117
  · cases h; exact is118
  · cases h; exact is123
  · cases h; exact is124
  · cases h; exact is125
  · cases h; exact is126
  · cases h; exact is127
  · cases h; exact is128
  · cases h; exact is129
  · cases h; exact is130
  · cases h; exact is131
  · cases h; exact is134
  · cases h; exact is135
  · cases h; exact is136
  · cases h; exact is137
  · cases h; exact is140
  · cases h; exact is141
  · cases h

theorem mixed : Tryz.prog.follows .mixedOrders = true := by kernel_rfl
theorem laid : laidOutB Tryz.prog = true := by kernel_rfl
theorem own : ownKnob Tryz.prog.godebug = none := by kernel_rfl

end Go.Proofs.YtjlmpmobankidaaGreat.X
