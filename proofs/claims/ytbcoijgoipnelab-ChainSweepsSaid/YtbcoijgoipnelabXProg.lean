/-
  Own work, printed by a program of ours (mkprog.py): the functions of this seat as code of the abstract run, and that each is the model's.
-/
import Derived.Test.YtbcoijgoipnelabXLaw
import Derived.Test.YtbcoijgoipnelabChecked
set_option maxRecDepth 100000
namespace Go.Proofs.Ytbcoijgoipnelab.X
open Go

-- 0 main.main: no body
def x0 : XDecl := .ext 0

-- 1 gosem.cut: no body
def x1 : XDecl := .ext 1

/-- gosem.cut.init -/
def x2 : XDecl := .code ⟨0, 
 (.ops [⟨(some 0), none, .call (.c (.func (.func 1) #[] #[])) []⟩] (some [])), []⟩

/-- cloisonne/cloisonnelaw09.ChainSweptOnce -/
def x3 : XDecl := .code ⟨3, 
 (.seq (.ops [⟨(some 6), none, .move (.c (.bool false))⟩] (some [0, 1, 2]))
 (.seq (.seq (.ops [⟨(some 7), none, .call (.c (.func (.func 7) #[] #[])) []⟩,
   ⟨(some 8), none, .un .not (.t 7)⟩] (some [0, 1, 2, 8]))
 (.cond (.t 8)
  (.seq (.ops [⟨(some 6), none, .move (.c (.bool false))⟩] (some [6]))
  .ret)
  .skip))
 (.seq (.seq (.ops [⟨(some 9), none, .move (.t 0)⟩,
   ⟨(some 10), none, .call (.c (.func (.func 8) #[] #[])) [(.t 9)]⟩,
   ⟨(some 11), none, .move (.t 10)⟩,
   ⟨(some 12), (some (11, false)), .move (.t 0)⟩,
   ⟨(some 13), (some (11, false)), .call (.c (.func (.func 9) #[] #[])) [(.t 12)]⟩,
   ⟨(some 14), (some (11, false)), .un .not (.t 13)⟩,
   ⟨(some 15), none, .pick (.t 11) (.c (.bool true)) (.t 14)⟩] (some [0, 1, 2, 15]))
 (.cond (.t 15)
  (.seq (.ops [⟨(some 6), none, .move (.c (.bool true))⟩] (some [6]))
  .ret)
  .skip))
 (.seq (.ops [⟨(some 16), none, .move (.t 0)⟩,
   ⟨(some 17), none, .move (.t 1)⟩,
   ⟨(some 18), none, .call (.c (.func (.func 11) #[] #[])) [(.t 16), (.t 17)]⟩,
   ⟨(some 19), none, .move (.t 2)⟩,
   ⟨(some 20), none, .call (.c (.func (.func 11) #[] #[])) [(.t 18), (.t 19)]⟩,
   ⟨(some 21), none, .move (.t 0)⟩,
   ⟨(some 22), none, .move (.t 1)⟩,
   ⟨(some 23), none, .move (.t 2)⟩,
   ⟨(some 24), none, .calcB .max [3, 3] 3 [(.t 22), (.t 23)]⟩,
   ⟨(some 25), none, .call (.c (.func (.func 12) #[] #[])) [(.t 21), (.t 24)]⟩,
   ⟨(some 26), none, .call (.c (.func (.func 10) #[] #[])) [(.t 20), (.t 25)]⟩,
   ⟨(some 27), none, .move (.t 26)⟩,
   ⟨(some 28), (some (27, true)), .move (.t 0)⟩,
   ⟨(some 29), (some (27, true)), .move (.t 1)⟩,
   ⟨(some 30), (some (27, true)), .move (.t 2)⟩,
   ⟨(some 31), (some (27, true)), .calcB .max [3, 3] 3 [(.t 29), (.t 30)]⟩,
   ⟨(some 32), (some (27, true)), .call (.c (.func (.func 13) #[] #[])) [(.t 28), (.t 31)]⟩,
   ⟨(some 33), (some (27, true)), .move (.t 0)⟩,
   ⟨(some 34), (some (27, true)), .move (.t 1)⟩,
   ⟨(some 35), (some (27, true)), .call (.c (.func (.func 13) #[] #[])) [(.t 33), (.t 34)]⟩,
   ⟨(some 36), (some (27, true)), .bin .geq 3 (.t 32) (.t 35)⟩,
   ⟨(some 37), none, .pick (.t 27) (.t 36) (.c (.bool false))⟩,
   ⟨(some 6), none, .move (.t 37)⟩] (some [6]))
 .ret)))), [.tmp 6]⟩

/-- cloisonne/cloisonnelaw09.ChainAdds -/
def x4 : XDecl := .code ⟨2, 
 (.seq (.ops [⟨(some 3), none, .box (.t 1)⟩,
   ⟨(some 4), none, .move (.c (.bool false))⟩] (some [0, 3]))
 (.seq (.seq (.ops [⟨(some 9), none, .call (.c (.func (.func 7) #[] #[])) []⟩,
   ⟨(some 10), none, .un .not (.t 9)⟩] (some [0, 3, 10]))
 (.cond (.t 10)
  (.seq (.ops [⟨(some 4), none, .move (.c (.bool false))⟩] (some [4]))
  .ret)
  .skip))
 (.seq (.seq (.ops [⟨(some 11), none, .move (.t 0)⟩,
   ⟨(some 12), none, .call (.c (.func (.func 8) #[] #[])) [(.t 11)]⟩,
   ⟨(some 13), none, .move (.t 12)⟩,
   ⟨(some 14), (some (13, false)), .fieldAddr 2 (.t 3)⟩,
   ⟨(some 15), (some (13, false)), .fieldAddr 1 (.t 14)⟩,
   ⟨(some 16), (some (13, false)), .load false 1 (.t 15)⟩,
   ⟨(some 17), (some (13, false)), .calcB .len [9] 3 [(.t 16)]⟩,
   ⟨(some 18), (some (13, false)), .bin .gtr 3 (.t 17) (.c (.int .i64 200))⟩,
   ⟨(some 19), none, .pick (.t 13) (.c (.bool true)) (.t 18)⟩] (some [0, 3, 19]))
 (.cond (.t 19)
  (.seq (.ops [⟨(some 4), none, .move (.c (.bool true))⟩] (some [4]))
  .ret)
  .skip))
 (.seq (.ops [⟨(some 20), none, .buildSlice [(.int .i64 0), (.bool false), (.bool false), (.string .empty), (.int .u64 0)] 5 0 []⟩,
   ⟨(some 21), none, .move (.t 0)⟩,
   ⟨(some 22), none, .append 5 48 [(.int .i64 0), (.bool false), (.bool false), (.string .empty), (.int .u64 0)] (.t 20) (.t 21)⟩,
   ⟨(some 5), none, .move (.t 22)⟩] (some [0, 3, 5]))
 (.seq (.ops [⟨(some 24), none, .move (.t 0)⟩,
   ⟨(some 25), none, .load true 5 (.t 3)⟩,
   ⟨(some 26), none, .call (.c (.func (.func 14) #[] #[])) [(.t 24), (.t 25)]⟩,
   ⟨(some 23), none, .move (.t 26)⟩,
   ⟨(some 27), none, .extract (.t 23) 0⟩,
   ⟨(some 28), none, .extract (.t 23) 1⟩,
   ⟨(some 6), none, .move (.t 27)⟩,
   ⟨(some 7), none, .move (.t 28)⟩] (some [0, 3, 5, 6, 7]))
 (.seq (.opsd [(0, 0, ⟨(some 29), none, .buildSlice [(.int .i64 0), (.bool false), (.bool false), (.string .empty), (.int .u64 0)] 5 0 []⟩),
   (1, 0, ⟨(some 30), none, .move (.t 0)⟩),
   (3, 0, ⟨(some 32), none, .load true 5 (.t 3)⟩),
   (4, 8, ⟨(some 33), none, .buildSlice [(.int .i64 0), (.bool false), (.bool false), (.string .empty), (.int .u64 0)] 5 1 [(0, (.t 32))]⟩),
   (2, 3, ⟨(some 31), none, .append 5 48 [(.int .i64 0), (.bool false), (.bool false), (.string .empty), (.int .u64 0)] (.t 29) (.t 30)⟩),
   (5, 31, ⟨(some 34), none, .append 5 48 [(.int .i64 0), (.bool false), (.bool false), (.string .empty), (.int .u64 0)] (.t 31) (.t 33)⟩),
   (6, 63, ⟨(some 8), none, .move (.t 34)⟩)] (some [0, 5, 6, 7, 8]))
 (.seq (.seq (.ops [⟨(some 35), none, .move (.t 5)⟩,
   ⟨(some 36), none, .move (.t 0)⟩,
   ⟨(some 37), none, .call (.c (.func (.func 10) #[] #[])) [(.t 35), (.t 36)]⟩,
   ⟨(some 38), none, .un .not (.t 37)⟩] (some [6, 7, 8, 38]))
 (.cond (.t 38)
  (.seq (.ops [⟨(some 4), none, .move (.c (.bool false))⟩] (some [4]))
  .ret)
  .skip))
 (.seq (.seq (.ops [⟨(some 39), none, .move (.t 8)⟩,
   ⟨(some 40), none, .call (.c (.func (.func 9) #[] #[])) [(.t 39)]⟩,
   ⟨(some 41), none, .un .not (.t 40)⟩] (some [6, 7, 8, 41]))
 (.cond (.t 41)
  (.seq (.ops [⟨(some 42), none, .move (.t 6)⟩,
    ⟨(some 43), none, .len (.t 42)⟩,
    ⟨(some 44), none, .bin .eql 3 (.t 43) (.c (.int .i64 0))⟩,
    ⟨(some 45), none, .move (.t 44)⟩,
    ⟨(some 46), (some (45, true)), .move (.t 7)⟩,
    ⟨(some 47), (some (45, true)), .bin .eql 34 (.t 46) (.c (.int .i64 1))⟩,
    ⟨(some 48), none, .pick (.t 45) (.t 47) (.c (.bool false))⟩,
    ⟨(some 4), none, .move (.t 48)⟩] (some [4]))
  .ret)
  .skip))
 (.seq (.ops [⟨(some 49), none, .move (.t 6)⟩,
   ⟨(some 50), none, .move (.t 8)⟩,
   ⟨(some 51), none, .call (.c (.func (.func 10) #[] #[])) [(.t 49), (.t 50)]⟩,
   ⟨(some 52), none, .move (.t 51)⟩,
   ⟨(some 53), (some (52, true)), .move (.t 7)⟩,
   ⟨(some 54), (some (52, true)), .bin .eql 34 (.t 53) (.c (.int .i64 0))⟩,
   ⟨(some 55), none, .pick (.t 52) (.t 54) (.c (.bool false))⟩,
   ⟨(some 4), none, .move (.t 55)⟩] (some [4]))
 .ret))))))))), [.tmp 4]⟩

/-- cloisonne/cloisonnelaw09.ChainTells -/
def x5 : XDecl := .code ⟨2, 
 (.seq (.ops [⟨(some 4), none, .move (.c (.bool false))⟩] (some [0, 1]))
 (.seq (.seq (.ops [⟨(some 13), none, .call (.c (.func (.func 7) #[] #[])) []⟩,
   ⟨(some 14), none, .un .not (.t 13)⟩] (some [0, 1, 14]))
 (.cond (.t 14)
  (.seq (.ops [⟨(some 4), none, .move (.c (.bool false))⟩] (some [4]))
  .ret)
  .skip))
 (.seq (.seq (.ops [⟨(some 15), none, .move (.t 0)⟩,
   ⟨(some 16), none, .call (.c (.func (.func 8) #[] #[])) [(.t 15)]⟩] (some [0, 1, 16]))
 (.cond (.t 16)
  (.seq (.ops [⟨(some 4), none, .move (.c (.bool true))⟩] (some [4]))
  .ret)
  .skip))
 (.seq (.ops [⟨(some 17), none, .move (.t 0)⟩,
   ⟨(some 18), none, .call (.c (.func (.func 9) #[] #[])) [(.t 17)]⟩,
   ⟨(some 5), none, .move (.t 18)⟩] (some [0, 1, 5]))
 (.seq (.ops [⟨(some 20), none, .move (.t 0)⟩,
   ⟨(some 21), none, .move (.t 1)⟩,
   ⟨(some 22), none, .call (.c (.func (.func 15) #[] #[])) [(.t 20), (.t 21)]⟩,
   ⟨(some 19), none, .move (.t 22)⟩,
   ⟨(some 23), none, .extract (.t 19) 0⟩,
   ⟨(some 24), none, .extract (.t 19) 1⟩,
   ⟨(some 6), none, .alloc [(.int .i64 0), (.bool false), (.bool false), (.string .empty), (.int .u64 0)]⟩,
   ⟨none, none, .store 5 (.t 6) (.t 23)⟩,
   ⟨(some 7), none, .move (.t 24)⟩] (some [0, 1, 5, 6, 7]))
 (.seq (.ops [⟨(some 26), none, .move (.t 0)⟩,
   ⟨(some 27), none, .call (.c (.func (.func 16) #[] #[])) [(.t 26)]⟩,
   ⟨(some 25), none, .move (.t 27)⟩,
   ⟨(some 28), none, .extract (.t 25) 0⟩,
   ⟨(some 29), none, .extract (.t 25) 1⟩,
   ⟨(some 8), none, .alloc [(.int .i64 0), (.bool false), (.bool false), (.string .empty), (.int .u64 0)]⟩,
   ⟨none, none, .store 5 (.t 8) (.t 28)⟩,
   ⟨(some 9), none, .move (.t 29)⟩] (some [0, 1, 5, 6, 7, 8, 9]))
 (.seq (.seq (.ops [⟨(some 30), none, .move (.t 0)⟩,
   ⟨(some 31), none, .call (.c (.func (.func 17) #[] #[])) [(.t 30)]⟩,
   ⟨(some 32), none, .move (.t 5)⟩,
   ⟨(some 33), none, .bin .neq 4 (.t 31) (.t 32)⟩] (some [0, 1, 5, 6, 7, 8, 9, 33]))
 (.cond (.t 33)
  (.seq (.ops [⟨(some 4), none, .move (.c (.bool false))⟩] (some [4]))
  .ret)
  .skip))
 (.seq (.seq (.ops [⟨(some 34), none, .move (.t 5)⟩,
   ⟨(some 35), none, .un .not (.t 34)⟩] (some [0, 1, 6, 7, 8, 9, 35]))
 (.cond (.t 35)
  (.seq (.ops [⟨(some 36), none, .load true 5 (.t 6)⟩,
    ⟨(some 37), none, .build [(.int .i64 0), (.bool false), (.bool false), (.string .empty), (.int .u64 0)] [(0, 1), (1, 1), (2, 3)] []⟩,
    ⟨(some 38), none, .bin .eql 33 (.t 36) (.t 37)⟩,
    ⟨(some 39), none, .move (.t 38)⟩,
    ⟨(some 40), (some (39, true)), .move (.t 7)⟩,
    ⟨(some 41), (some (39, true)), .un .not (.t 40)⟩,
    ⟨(some 42), none, .pick (.t 39) (.t 41) (.c (.bool false))⟩,
    ⟨(some 43), none, .move (.t 42)⟩,
    ⟨(some 44), (some (43, true)), .load true 5 (.t 8)⟩,
    ⟨(some 45), (some (43, true)), .build [(.int .i64 0), (.bool false), (.bool false), (.string .empty), (.int .u64 0)] [(0, 1), (1, 1), (2, 3)] []⟩,
    ⟨(some 46), (some (43, true)), .bin .eql 33 (.t 44) (.t 45)⟩,
    ⟨(some 47), none, .pick (.t 43) (.t 46) (.c (.bool false))⟩,
    ⟨(some 48), none, .move (.t 47)⟩,
    ⟨(some 49), (some (48, true)), .move (.t 9)⟩,
    ⟨(some 50), (some (48, true)), .un .not (.t 49)⟩,
    ⟨(some 51), none, .pick (.t 48) (.t 50) (.c (.bool false))⟩,
    ⟨(some 52), none, .move (.t 51)⟩,
    ⟨(some 53), (some (52, true)), .move (.t 0)⟩,
    ⟨(some 54), (some (52, true)), .call (.c (.func (.func 18) #[] #[])) [(.t 53)]⟩,
    ⟨(some 55), (some (52, true)), .bin .eql 3 (.t 54) (.c (.int .i64 0))⟩,
    ⟨(some 56), none, .pick (.t 52) (.t 55) (.c (.bool false))⟩,
    ⟨(some 57), none, .move (.t 56)⟩,
    ⟨(some 58), (some (57, true)), .move (.t 0)⟩,
    ⟨(some 59), (some (57, true)), .move (.t 1)⟩,
    ⟨(some 60), (some (57, true)), .call (.c (.func (.func 13) #[] #[])) [(.t 58), (.t 59)]⟩,
    ⟨(some 61), (some (57, true)), .bin .eql 3 (.t 60) (.c (.int .i64 0))⟩,
    ⟨(some 62), none, .pick (.t 57) (.t 61) (.c (.bool false))⟩,
    ⟨(some 4), none, .move (.t 62)⟩] (some [4]))
  .ret)
  .skip))
 (.seq (.ops [⟨(some 64), none, .move (.t 0)⟩,
   ⟨(some 65), none, .move (.t 1)⟩,
   ⟨(some 66), none, .call (.c (.func (.func 19) #[] #[])) [(.t 64), (.t 65)]⟩,
   ⟨(some 63), none, .move (.t 66)⟩,
   ⟨(some 67), none, .extract (.t 63) 0⟩,
   ⟨(some 68), none, .extract (.t 63) 1⟩,
   ⟨(some 10), none, .alloc [(.int .i64 0), (.bool false), (.bool false), (.string .empty), (.int .u64 0)]⟩,
   ⟨none, none, .store 5 (.t 10) (.t 67)⟩,
   ⟨(some 11), none, .move (.t 68)⟩] (some [0, 1, 6, 7, 8, 9, 10, 11]))
 (.seq (.ops [⟨(some 69), none, .build [(.int .i64 0), (.bool false), (.bool false), (.string .empty), (.int .u64 0)] [(0, 1), (1, 1), (2, 3)] []⟩,
   ⟨(some 12), none, .alloc [(.int .i64 0), (.bool false), (.bool false), (.string .empty), (.int .u64 0)]⟩,
   ⟨none, none, .store 5 (.t 12) (.t 69)⟩] (some [0, 1, 6, 7, 8, 9, 10, 11, 12]))
 (.seq (.seq (.ops [⟨(some 70), none, .move (.t 0)⟩,
   ⟨(some 71), none, .len (.t 70)⟩,
   ⟨(some 72), none, .bin .gtr 3 (.t 71) (.c (.int .i64 0))⟩] (some [0, 1, 6, 7, 8, 9, 10, 11, 12, 72]))
 (.cond (.t 72)
  (.ops [⟨(some 73), none, .move (.t 0)⟩,
    ⟨(some 74), none, .move (.t 0)⟩,
    ⟨(some 75), none, .len (.t 74)⟩,
    ⟨(some 76), none, .bin .sub 3 (.t 75) (.c (.int .i64 1))⟩,
    ⟨(some 77), none, .indexAddr 5 (.t 73) (.t 76)⟩,
    ⟨(some 78), none, .load true 5 (.t 77)⟩,
    ⟨none, none, .store 5 (.t 12) (.t 78)⟩] (some [0, 1, 6, 7, 8, 9, 10, 11, 12]))
  .skip))
 (.seq (.ops [⟨(some 79), none, .load true 5 (.t 6)⟩,
   ⟨(some 80), none, .load true 5 (.t 10)⟩,
   ⟨(some 81), none, .bin .eql 33 (.t 79) (.t 80)⟩,
   ⟨(some 82), none, .move (.t 81)⟩,
   ⟨(some 83), (some (82, true)), .move (.t 7)⟩,
   ⟨(some 84), (some (82, true)), .move (.t 11)⟩,
   ⟨(some 85), (some (82, true)), .bin .eql 4 (.t 83) (.t 84)⟩,
   ⟨(some 86), none, .pick (.t 82) (.t 85) (.c (.bool false))⟩,
   ⟨(some 87), none, .move (.t 86)⟩,
   ⟨(some 88), (some (87, true)), .load true 5 (.t 8)⟩,
   ⟨(some 89), (some (87, true)), .load true 5 (.t 12)⟩,
   ⟨(some 90), (some (87, true)), .bin .eql 33 (.t 88) (.t 89)⟩,
   ⟨(some 91), none, .pick (.t 87) (.t 90) (.c (.bool false))⟩,
   ⟨(some 92), none, .move (.t 91)⟩,
   ⟨(some 93), (some (92, true)), .move (.t 9)⟩,
   ⟨(some 94), (some (92, true)), .move (.t 0)⟩,
   ⟨(some 95), (some (92, true)), .len (.t 94)⟩,
   ⟨(some 96), (some (92, true)), .bin .gtr 3 (.t 95) (.c (.int .i64 0))⟩,
   ⟨(some 97), (some (92, true)), .bin .eql 4 (.t 93) (.t 96)⟩,
   ⟨(some 98), none, .pick (.t 92) (.t 97) (.c (.bool false))⟩,
   ⟨(some 99), none, .move (.t 98)⟩,
   ⟨(some 100), (some (99, true)), .move (.t 0)⟩,
   ⟨(some 101), (some (99, true)), .call (.c (.func (.func 18) #[] #[])) [(.t 100)]⟩,
   ⟨(some 102), (some (99, true)), .move (.t 0)⟩,
   ⟨(some 103), (some (99, true)), .call (.c (.func (.func 20) #[] #[])) [(.t 102)]⟩,
   ⟨(some 104), (some (99, true)), .bin .eql 3 (.t 101) (.t 103)⟩,
   ⟨(some 105), none, .pick (.t 99) (.t 104) (.c (.bool false))⟩,
   ⟨(some 106), none, .move (.t 105)⟩,
   ⟨(some 107), (some (106, true)), .move (.t 0)⟩,
   ⟨(some 108), (some (106, true)), .move (.t 1)⟩,
   ⟨(some 109), (some (106, true)), .call (.c (.func (.func 13) #[] #[])) [(.t 107), (.t 108)]⟩,
   ⟨(some 110), (some (106, true)), .move (.t 0)⟩,
   ⟨(some 111), (some (106, true)), .len (.t 110)⟩,
   ⟨(some 112), (some (106, true)), .move (.t 0)⟩,
   ⟨(some 113), (some (106, true)), .move (.t 1)⟩,
   ⟨(some 114), (some (106, true)), .call (.c (.func (.func 12) #[] #[])) [(.t 112), (.t 113)]⟩,
   ⟨(some 115), (some (106, true)), .len (.t 114)⟩,
   ⟨(some 116), (some (106, true)), .bin .sub 3 (.t 111) (.t 115)⟩,
   ⟨(some 117), (some (106, true)), .bin .eql 3 (.t 109) (.t 116)⟩,
   ⟨(some 118), none, .pick (.t 106) (.t 117) (.c (.bool false))⟩,
   ⟨(some 4), none, .move (.t 118)⟩] (some [4]))
 .ret)))))))))))), [.tmp 4]⟩

/-- cloisonne/cloisonnelaw09.ChainSweeps -/
def x6 : XDecl := .code ⟨3, 
 (.seq (.ops [⟨(some 6), none, .move (.c (.bool false))⟩] (some [0, 1, 2]))
 (.seq (.seq (.ops [⟨(some 14), none, .call (.c (.func (.func 7) #[] #[])) []⟩,
   ⟨(some 15), none, .un .not (.t 14)⟩] (some [0, 1, 2, 15]))
 (.cond (.t 15)
  (.seq (.ops [⟨(some 6), none, .move (.c (.bool false))⟩] (some [6]))
  .ret)
  .skip))
 (.seq (.seq (.ops [⟨(some 16), none, .move (.t 0)⟩,
   ⟨(some 17), none, .call (.c (.func (.func 8) #[] #[])) [(.t 16)]⟩] (some [0, 1, 2, 17]))
 (.cond (.t 17)
  (.seq (.ops [⟨(some 6), none, .move (.c (.bool true))⟩] (some [6]))
  .ret)
  .skip))
 (.seq (.ops [⟨(some 18), none, .move (.t 0)⟩,
   ⟨(some 19), none, .move (.t 1)⟩,
   ⟨(some 20), none, .call (.c (.func (.func 11) #[] #[])) [(.t 18), (.t 19)]⟩,
   ⟨(some 7), none, .move (.t 20)⟩] (some [0, 1, 2, 7]))
 (.seq (.seq (.ops [⟨(some 21), none, .move (.t 0)⟩,
   ⟨(some 22), none, .call (.c (.func (.func 9) #[] #[])) [(.t 21)]⟩,
   ⟨(some 23), none, .un .not (.t 22)⟩] (some [0, 1, 2, 7, 23]))
 (.cond (.t 23)
  (.seq (.ops [⟨(some 24), none, .move (.t 7)⟩,
    ⟨(some 25), none, .len (.t 24)⟩,
    ⟨(some 26), none, .bin .eql 3 (.t 25) (.c (.int .i64 0))⟩,
    ⟨(some 6), none, .move (.t 26)⟩] (some [6]))
  .ret)
  .skip))
 (.seq (.seq (.ops [⟨(some 27), none, .move (.t 7)⟩,
   ⟨(some 28), none, .move (.t 0)⟩,
   ⟨(some 29), none, .move (.t 1)⟩,
   ⟨(some 30), none, .call (.c (.func (.func 12) #[] #[])) [(.t 28), (.t 29)]⟩,
   ⟨(some 31), none, .call (.c (.func (.func 10) #[] #[])) [(.t 27), (.t 30)]⟩,
   ⟨(some 32), none, .un .not (.t 31)⟩,
   ⟨(some 33), none, .move (.t 32)⟩,
   ⟨(some 34), (some (33, false)), .move (.t 7)⟩,
   ⟨(some 35), (some (33, false)), .move (.t 1)⟩,
   ⟨(some 36), (some (33, false)), .call (.c (.func (.func 11) #[] #[])) [(.t 34), (.t 35)]⟩,
   ⟨(some 37), (some (33, false)), .move (.t 7)⟩,
   ⟨(some 38), (some (33, false)), .call (.c (.func (.func 10) #[] #[])) [(.t 36), (.t 37)]⟩,
   ⟨(some 39), (some (33, false)), .un .not (.t 38)⟩,
   ⟨(some 40), none, .pick (.t 33) (.c (.bool true)) (.t 39)⟩] (some [0, 1, 2, 7, 40]))
 (.cond (.t 40)
  (.seq (.ops [⟨(some 6), none, .move (.c (.bool false))⟩] (some [6]))
  .ret)
  .skip))
 (.seq (.seq (.ops [⟨(some 8), none, .move (.c (.int .i64 0))⟩] (some [0, 1, 2, 7, 8]))
 (.block 0
  (.loop
   (.seq (.seq (.ops [⟨(some 41), none, .move (.t 8)⟩,
     ⟨(some 42), none, .bin .lss 3 (.t 41) (.c (.int .i64 2))⟩] (some [0, 1, 2, 7, 8, 42]))
   (.cond (.t 42)
    .skip
    (.exit 0)))
   (.seq (.block 1
    (.seq (.ops [⟨(some 45), none, .move (.t 2)⟩,
      ⟨(some 46), none, .move (.t 1)⟩,
      ⟨(some 47), none, .calcB .max [3, 3] 3 [(.t 45), (.t 46)]⟩,
      ⟨(some 9), none, .move (.t 47)⟩] (some [0, 1, 2, 7, 8, 9]))
    (.seq (.seq (.ops [⟨(some 48), none, .move (.t 8)⟩,
      ⟨(some 49), none, .bin .eql 3 (.t 48) (.c (.int .i64 1))⟩] (some [0, 1, 2, 7, 8, 9, 49]))
    (.cond (.t 49)
     (.ops [⟨(some 50), none, .move (.t 1)⟩,
       ⟨(some 9), none, .move (.t 50)⟩] (some [0, 1, 2, 7, 8, 9]))
     .skip))
    (.seq (.ops [⟨(some 52), none, .move (.t 0)⟩,
      ⟨(some 53), none, .move (.t 9)⟩,
      ⟨(some 54), none, .call (.c (.func (.func 15) #[] #[])) [(.t 52), (.t 53)]⟩,
      ⟨(some 51), none, .move (.t 54)⟩,
      ⟨(some 55), none, .extract (.t 51) 0⟩,
      ⟨(some 56), none, .extract (.t 51) 1⟩,
      ⟨(some 10), none, .alloc [(.int .i64 0), (.bool false), (.bool false), (.string .empty), (.int .u64 0)]⟩,
      ⟨none, none, .store 5 (.t 10) (.t 55)⟩,
      ⟨(some 11), none, .move (.t 56)⟩] (some [0, 1, 2, 7, 8, 9, 10, 11]))
    (.seq (.ops [⟨(some 58), none, .move (.t 7)⟩,
      ⟨(some 59), none, .move (.t 9)⟩,
      ⟨(some 60), none, .call (.c (.func (.func 15) #[] #[])) [(.t 58), (.t 59)]⟩,
      ⟨(some 57), none, .move (.t 60)⟩,
      ⟨(some 61), none, .extract (.t 57) 0⟩,
      ⟨(some 62), none, .extract (.t 57) 1⟩,
      ⟨(some 12), none, .alloc [(.int .i64 0), (.bool false), (.bool false), (.string .empty), (.int .u64 0)]⟩,
      ⟨none, none, .store 5 (.t 12) (.t 61)⟩,
      ⟨(some 13), none, .move (.t 62)⟩] (some [0, 1, 2, 7, 8, 10, 11, 12, 13]))
    (.seq (.ops [⟨(some 63), none, .load true 5 (.t 10)⟩,
      ⟨(some 64), none, .load true 5 (.t 12)⟩,
      ⟨(some 65), none, .bin .neq 33 (.t 63) (.t 64)⟩,
      ⟨(some 66), none, .move (.t 65)⟩,
      ⟨(some 67), (some (66, false)), .move (.t 11)⟩,
      ⟨(some 68), (some (66, false)), .move (.t 13)⟩,
      ⟨(some 69), (some (66, false)), .bin .neq 4 (.t 67) (.t 68)⟩,
      ⟨(some 70), none, .pick (.t 66) (.c (.bool true)) (.t 69)⟩] (some [0, 1, 2, 7, 8, 70]))
    (.cond (.t 70)
     (.seq (.ops [⟨(some 6), none, .move (.c (.bool false))⟩] (some [6]))
     .ret)
     .skip)))))))
   (.ops [⟨(some 43), none, .move (.t 8)⟩,
     ⟨(some 44), none, .bin .add 3 (.t 43) (.c (.int .i64 1))⟩,
     ⟨(some 8), none, .move (.t 44)⟩] (some [0, 1, 2, 7, 8])))))))
 (.seq (.ops [⟨(some 71), none, .move (.t 7)⟩,
   ⟨(some 72), none, .call (.c (.func (.func 18) #[] #[])) [(.t 71)]⟩,
   ⟨(some 73), none, .move (.t 0)⟩,
   ⟨(some 74), none, .call (.c (.func (.func 20) #[] #[])) [(.t 73)]⟩,
   ⟨(some 75), none, .bin .eql 3 (.t 72) (.t 74)⟩,
   ⟨(some 76), none, .move (.t 75)⟩,
   ⟨(some 77), (some (76, true)), .move (.t 7)⟩,
   ⟨(some 78), (some (76, true)), .call (.c (.func (.func 18) #[] #[])) [(.t 77)]⟩,
   ⟨(some 79), (some (76, true)), .bin .gtr 3 (.t 78) (.c (.int .i64 0))⟩,
   ⟨(some 80), (some (76, true)), .move (.t 0)⟩,
   ⟨(some 81), (some (76, true)), .len (.t 80)⟩,
   ⟨(some 82), (some (76, true)), .bin .gtr 3 (.t 81) (.c (.int .i64 0))⟩,
   ⟨(some 83), (some (76, true)), .move (.t 82)⟩,
   ⟨(some 84), (some (83, true)), .move (.t 0)⟩,
   ⟨(some 85), (some (83, true)), .move (.t 0)⟩,
   ⟨(some 86), (some (83, true)), .len (.t 85)⟩,
   ⟨(some 87), (some (83, true)), .bin .sub 3 (.t 86) (.c (.int .i64 1))⟩,
   ⟨(some 88), (some (83, true)), .indexAddr 5 (.t 84) (.t 87)⟩,
   ⟨(some 89), (some (83, true)), .fieldAddr 1 (.t 88)⟩,
   ⟨(some 90), (some (83, true)), .load false 1 (.t 89)⟩,
   ⟨(some 91), (some (83, true)), .un .not (.t 90)⟩,
   ⟨(some 92), (some (76, true)), .pick (.t 83) (.t 91) (.c (.bool false))⟩,
   ⟨(some 93), (some (76, true)), .move (.t 92)⟩,
   ⟨(some 94), (some (93, true)), .move (.t 0)⟩,
   ⟨(some 95), (some (93, true)), .move (.t 0)⟩,
   ⟨(some 96), (some (93, true)), .len (.t 95)⟩,
   ⟨(some 97), (some (93, true)), .bin .sub 3 (.t 96) (.c (.int .i64 1))⟩,
   ⟨(some 98), (some (93, true)), .indexAddr 5 (.t 94) (.t 97)⟩,
   ⟨(some 99), (some (93, true)), .fieldAddr 2 (.t 98)⟩,
   ⟨(some 100), (some (93, true)), .load true 3 (.t 99)⟩,
   ⟨(some 101), (some (93, true)), .call (.c (.func (.func 21) #[] #[])) [(.t 100)]⟩,
   ⟨(some 102), (some (93, true)), .calcB .len [9] 3 [(.t 101)]⟩,
   ⟨(some 103), (some (93, true)), .bin .gtr 3 (.t 102) (.c (.int .i64 0))⟩,
   ⟨(some 104), (some (76, true)), .pick (.t 93) (.t 103) (.c (.bool false))⟩,
   ⟨(some 105), (some (76, true)), .bin .eql 4 (.t 79) (.t 104)⟩,
   ⟨(some 106), none, .pick (.t 76) (.t 105) (.c (.bool false))⟩,
   ⟨(some 6), none, .move (.t 106)⟩] (some [6]))
 .ret)))))))), [.tmp 6]⟩

/-- cloisonne/cloisonnelaw09.awake -/
def x7 : XDecl := .code ⟨0, 
 (.seq (.ops [⟨(some 0), none, .move (.c (.bool false))⟩] (some []))
 (.seq (.ops [⟨(some 4), none, .build [(.int .i64 0), (.bool false), (.bool false), (.string .empty), (.int .u64 0)] [(0, 1), (1, 1), (2, 3)] [(0, (.c (.int .i64 2)))]⟩,
   ⟨(some 5), none, .build [(.int .i64 0), (.bool false), (.bool false), (.string .empty), (.int .u64 0)] [(0, 1), (1, 1), (2, 3)] [(0, (.c (.int .i64 5)))]⟩,
   ⟨(some 6), none, .build [(.int .i64 0), (.bool false), (.bool false), (.string .empty), (.int .u64 0)] [(0, 1), (1, 1), (2, 3)] [(0, (.c (.int .i64 9)))]⟩,
   ⟨(some 7), none, .buildSlice [(.int .i64 0), (.bool false), (.bool false), (.string .empty), (.int .u64 0)] 5 3 [(0, (.t 4)), (1, (.t 5)), (2, (.t 6))]⟩,
   ⟨(some 1), none, .move (.t 7)⟩] (some [1]))
 (.seq (.ops [⟨(some 9), none, .move (.t 1)⟩,
   ⟨(some 10), none, .call (.c (.func (.func 15) #[] #[])) [(.t 9), (.c (.int .i64 7))]⟩,
   ⟨(some 8), none, .move (.t 10)⟩,
   ⟨(some 11), none, .extract (.t 8) 0⟩,
   ⟨(some 12), none, .extract (.t 8) 1⟩,
   ⟨(some 2), none, .alloc [(.int .i64 0), (.bool false), (.bool false), (.string .empty), (.int .u64 0)]⟩,
   ⟨none, none, .store 5 (.t 2) (.t 11)⟩,
   ⟨(some 3), none, .move (.t 12)⟩] (some [1, 2, 3]))
 (.seq (.ops [⟨(some 13), none, .fieldAddr 0 (.t 2)⟩,
   ⟨(some 14), none, .load false 1 (.t 13)⟩,
   ⟨(some 15), none, .bin .eql 3 (.t 14) (.c (.int .i64 5))⟩,
   ⟨(some 16), none, .move (.t 15)⟩,
   ⟨(some 17), (some (16, true)), .move (.t 3)⟩,
   ⟨(some 18), none, .pick (.t 16) (.t 17) (.c (.bool false))⟩,
   ⟨(some 19), none, .move (.t 18)⟩,
   ⟨(some 20), (some (19, true)), .move (.t 1)⟩,
   ⟨(some 21), (some (19, true)), .call (.c (.func (.func 11) #[] #[])) [(.t 20), (.c (.int .i64 5))]⟩,
   ⟨(some 22), (some (19, true)), .len (.t 21)⟩,
   ⟨(some 23), (some (19, true)), .bin .eql 3 (.t 22) (.c (.int .i64 2))⟩,
   ⟨(some 24), none, .pick (.t 19) (.t 23) (.c (.bool false))⟩,
   ⟨(some 25), none, .move (.t 24)⟩,
   ⟨(some 26), (some (25, true)), .move (.t 1)⟩,
   ⟨(some 27), (some (25, true)), .call (.c (.func (.func 13) #[] #[])) [(.t 26), (.c (.int .i64 5))]⟩,
   ⟨(some 28), (some (25, true)), .bin .eql 3 (.t 27) (.c (.int .i64 1))⟩,
   ⟨(some 29), none, .pick (.t 25) (.t 28) (.c (.bool false))⟩,
   ⟨(some 0), none, .move (.t 29)⟩] (some [0]))
 .ret)))), [.tmp 0]⟩

/-- cloisonne/cloisonnelaw09.far -/
def x8 : XDecl := .code ⟨1, 
 (.seq (.ops [⟨(some 2), none, .move (.c (.bool false))⟩] (some [0]))
 (.seq (.seq (.ops [⟨(some 4), none, .move (.t 0)⟩,
   ⟨(some 5), none, .len (.t 4)⟩,
   ⟨(some 6), none, .bin .gtr 3 (.t 5) (.c (.int .i64 100))⟩] (some [0, 6]))
 (.cond (.t 6)
  (.seq (.ops [⟨(some 2), none, .move (.c (.bool true))⟩] (some [2]))
  .ret)
  .skip))
 (.seq (.seq (.ops [⟨(some 3), none, .move (.c (.int .i64 0))⟩] (some [0, 3]))
 (.block 0
  (.loop
   (.seq (.seq (.ops [⟨(some 7), none, .move (.t 3)⟩,
     ⟨(some 8), none, .move (.t 0)⟩,
     ⟨(some 9), none, .len (.t 8)⟩,
     ⟨(some 10), none, .bin .lss 3 (.t 7) (.t 9)⟩] (some [0, 3, 10]))
   (.cond (.t 10)
    .skip
    (.exit 0)))
   (.seq (.block 1
    (.seq (.ops [⟨(some 13), none, .move (.t 0)⟩,
      ⟨(some 14), none, .move (.t 3)⟩,
      ⟨(some 15), none, .indexAddr 5 (.t 13) (.t 14)⟩,
      ⟨(some 16), none, .fieldAddr 2 (.t 15)⟩,
      ⟨(some 17), none, .fieldAddr 1 (.t 16)⟩,
      ⟨(some 18), none, .load false 1 (.t 17)⟩,
      ⟨(some 19), none, .calcB .len [9] 3 [(.t 18)]⟩,
      ⟨(some 20), none, .bin .gtr 3 (.t 19) (.c (.int .i64 200))⟩] (some [0, 3, 20]))
    (.cond (.t 20)
     (.seq (.ops [⟨(some 2), none, .move (.c (.bool true))⟩] (some [2]))
     .ret)
     .skip)))
   (.ops [⟨(some 11), none, .move (.t 3)⟩,
     ⟨(some 12), none, .bin .add 3 (.t 11) (.c (.int .i64 1))⟩,
     ⟨(some 3), none, .move (.t 12)⟩] (some [0, 3])))))))
 (.seq (.ops [⟨(some 2), none, .move (.c (.bool false))⟩] (some [2]))
 .ret)))), [.tmp 2]⟩

/-- cloisonne/cloisonneref09.Right -/
def x9 : XDecl := .code ⟨1, 
 (.seq (.ops [⟨(some 2), none, .move (.c (.bool false))⟩] (some [0]))
 (.seq (.ops [⟨(some 3), none, .move (.c (.int .i64 0))⟩] (some [0, 3]))
 (.seq (.seq (.ops [⟨(some 4), none, .move (.c (.int .i64 0))⟩] (some [0, 3, 4]))
 (.block 0
  (.loop
   (.seq (.seq (.ops [⟨(some 5), none, .move (.t 4)⟩,
     ⟨(some 6), none, .move (.t 0)⟩,
     ⟨(some 7), none, .len (.t 6)⟩,
     ⟨(some 8), none, .bin .lss 3 (.t 5) (.t 7)⟩] (some [0, 3, 4, 8]))
   (.cond (.t 8)
    .skip
    (.exit 0)))
   (.seq (.block 1
    (.seq (.seq (.ops [⟨(some 11), none, .move (.t 0)⟩,
      ⟨(some 12), none, .move (.t 4)⟩,
      ⟨(some 13), none, .indexAddr 5 (.t 11) (.t 12)⟩,
      ⟨(some 14), none, .fieldAddr 0 (.t 13)⟩,
      ⟨(some 15), none, .load false 1 (.t 14)⟩,
      ⟨(some 16), none, .move (.t 3)⟩,
      ⟨(some 17), none, .bin .leq 3 (.t 15) (.t 16)⟩,
      ⟨(some 18), none, .move (.t 17)⟩,
      ⟨(some 19), (some (18, false)), .move (.t 0)⟩,
      ⟨(some 20), (some (18, false)), .move (.t 4)⟩,
      ⟨(some 21), (some (18, false)), .indexAddr 5 (.t 19) (.t 20)⟩,
      ⟨(some 22), (some (18, false)), .fieldAddr 0 (.t 21)⟩,
      ⟨(some 23), (some (18, false)), .load false 1 (.t 22)⟩,
      ⟨(some 24), (some (18, false)), .bin .gtr 3 (.t 23) (.c (.int .i64 1073741824))⟩,
      ⟨(some 25), none, .pick (.t 18) (.c (.bool true)) (.t 24)⟩,
      ⟨(some 26), none, .move (.t 25)⟩,
      ⟨(some 27), (some (26, false)), .move (.t 0)⟩,
      ⟨(some 28), (some (26, false)), .move (.t 4)⟩,
      ⟨(some 29), (some (26, false)), .indexAddr 5 (.t 27) (.t 28)⟩,
      ⟨(some 30), (some (26, false)), .fieldAddr 2 (.t 29)⟩,
      ⟨(some 31), (some (26, false)), .load true 3 (.t 30)⟩,
      ⟨(some 32), (some (26, false)), .call (.c (.func (.func 22) #[] #[])) [(.t 31)]⟩,
      ⟨(some 33), (some (26, false)), .un .not (.t 32)⟩,
      ⟨(some 34), none, .pick (.t 26) (.c (.bool true)) (.t 33)⟩,
      ⟨(some 35), none, .move (.t 34)⟩,
      ⟨(some 36), (some (35, false)), .move (.t 0)⟩,
      ⟨(some 37), (some (35, false)), .move (.t 4)⟩,
      ⟨(some 38), (some (35, false)), .indexAddr 5 (.t 36) (.t 37)⟩,
      ⟨(some 39), (some (35, false)), .fieldAddr 1 (.t 38)⟩,
      ⟨(some 40), (some (35, false)), .load false 1 (.t 39)⟩,
      ⟨(some 41), (some (35, false)), .move (.t 40)⟩,
      ⟨(some 42), (some (41, true)), .move (.t 0)⟩,
      ⟨(some 43), (some (41, true)), .move (.t 4)⟩,
      ⟨(some 44), (some (41, true)), .indexAddr 5 (.t 42) (.t 43)⟩,
      ⟨(some 45), (some (41, true)), .fieldAddr 2 (.t 44)⟩,
      ⟨(some 46), (some (41, true)), .load true 3 (.t 45)⟩,
      ⟨(some 47), (some (41, true)), .build [(.bool false), (.string .empty), (.int .u64 0)] [(0, 1), (1, 1), (2, 1)] []⟩,
      ⟨(some 48), (some (41, true)), .bin .neq 31 (.t 46) (.t 47)⟩,
      ⟨(some 49), (some (35, false)), .pick (.t 41) (.t 48) (.c (.bool false))⟩,
      ⟨(some 50), none, .pick (.t 35) (.c (.bool true)) (.t 49)⟩] (some [0, 4, 50]))
    (.cond (.t 50)
     (.seq (.ops [⟨(some 2), none, .move (.c (.bool false))⟩] (some [2]))
     .ret)
     .skip))
    (.ops [⟨(some 51), none, .move (.t 0)⟩,
      ⟨(some 52), none, .move (.t 4)⟩,
      ⟨(some 53), none, .indexAddr 5 (.t 51) (.t 52)⟩,
      ⟨(some 54), none, .fieldAddr 0 (.t 53)⟩,
      ⟨(some 55), none, .load false 1 (.t 54)⟩,
      ⟨(some 3), none, .move (.t 55)⟩] (some [0, 3, 4]))))
   (.ops [⟨(some 9), none, .move (.t 4)⟩,
     ⟨(some 10), none, .bin .add 3 (.t 9) (.c (.int .i64 1))⟩,
     ⟨(some 4), none, .move (.t 10)⟩] (some [0, 3, 4])))))))
 (.seq (.ops [⟨(some 2), none, .move (.c (.bool true))⟩] (some [2]))
 .ret)))), [.tmp 2]⟩

/-- cloisonne/cloisonneref09.Same -/
def x10 : XDecl := .code ⟨2, 
 (.seq (.ops [⟨(some 4), none, .move (.c (.bool false))⟩] (some [0, 1]))
 (.seq (.seq (.ops [⟨(some 6), none, .move (.t 0)⟩,
   ⟨(some 7), none, .len (.t 6)⟩,
   ⟨(some 8), none, .move (.t 1)⟩,
   ⟨(some 9), none, .len (.t 8)⟩,
   ⟨(some 10), none, .bin .neq 3 (.t 7) (.t 9)⟩] (some [0, 1, 10]))
 (.cond (.t 10)
  (.seq (.ops [⟨(some 4), none, .move (.c (.bool false))⟩] (some [4]))
  .ret)
  .skip))
 (.seq (.seq (.ops [⟨(some 5), none, .move (.c (.int .i64 0))⟩] (some [0, 1, 5]))
 (.block 0
  (.loop
   (.seq (.seq (.ops [⟨(some 11), none, .move (.t 5)⟩,
     ⟨(some 12), none, .move (.t 0)⟩,
     ⟨(some 13), none, .len (.t 12)⟩,
     ⟨(some 14), none, .bin .lss 3 (.t 11) (.t 13)⟩] (some [0, 1, 5, 14]))
   (.cond (.t 14)
    .skip
    (.exit 0)))
   (.seq (.block 1
    (.seq (.opsr [⟨(some 17), none, .move (.t 0)⟩,
      ⟨(some 18), none, .move (.t 5)⟩,
      ⟨(some 19), none, .indexAddr 5 (.t 17) (.t 18)⟩,
      ⟨(some 20), none, .load true 5 (.t 19)⟩,
      ⟨(some 21), none, .move (.t 1)⟩,
      ⟨(some 22), none, .move (.t 5)⟩,
      ⟨(some 23), none, .indexAddr 5 (.t 21) (.t 22)⟩,
      ⟨(some 24), none, .load true 5 (.t 23)⟩,
      ⟨(some 25), none, .bin .neq 33 (.t 20) (.t 24)⟩] (some [0, 1, 5, 25]))
    (.cond (.t 25)
     (.seq (.ops [⟨(some 4), none, .move (.c (.bool false))⟩] (some [4]))
     .ret)
     .skip)))
   (.ops [⟨(some 15), none, .move (.t 5)⟩,
     ⟨(some 16), none, .bin .add 3 (.t 15) (.c (.int .i64 1))⟩,
     ⟨(some 5), none, .move (.t 16)⟩] (some [0, 1, 5])))))))
 (.seq (.ops [⟨(some 4), none, .move (.c (.bool true))⟩] (some [4]))
 .ret)))), [.tmp 4]⟩

/-- cloisonne/chain.Sweep -/
def x11 : XDecl := .code ⟨2, 
 (.seq (.ops [⟨(some 4), none, .move (.c (.slice none 0 0))⟩] (some [0, 1]))
 (.seq (.seq (.ops [⟨(some 5), none, .move (.t 0)⟩,
   ⟨(some 6), none, .call (.c (.func (.func 17) #[] #[])) [(.t 5)]⟩,
   ⟨(some 7), none, .un .not (.t 6)⟩] (some [0, 1, 7]))
 (.cond (.t 7)
  (.seq (.ops [⟨(some 4), none, .move (.c (.slice none 0 0))⟩] (some [4]))
  .ret)
  .skip))
 (.seq (.ops [⟨(some 8), none, .move (.t 0)⟩,
   ⟨(some 9), none, .move (.t 0)⟩,
   ⟨(some 10), none, .move (.t 1)⟩,
   ⟨(some 11), none, .call (.c (.func (.func 13) #[] #[])) [(.t 9), (.t 10)]⟩,
   ⟨(some 12), none, .slice 5 (.t 8) (some (.t 11)) none none⟩,
   ⟨(some 13), none, .call (.c (.func (.func 23) #[] #[])) [(.t 12)]⟩,
   ⟨(some 4), none, .move (.t 13)⟩] (some [4]))
 .ret))), [.tmp 4]⟩

/-- cloisonne/cloisonneref09.Sweep -/
def x12 : XDecl := .code ⟨2, 
 (.seq (.ops [⟨(some 4), none, .move (.c (.slice none 0 0))⟩] (some [0, 1]))
 (.seq (.ops [⟨(some 7), none, .buildSlice [(.int .i64 0), (.bool false), (.bool false), (.string .empty), (.int .u64 0)] 5 0 []⟩,
   ⟨(some 5), none, .move (.t 7)⟩] (some [0, 1, 5]))
 (.seq (.seq (.ops [⟨(some 6), none, .move (.c (.int .i64 0))⟩] (some [0, 1, 5, 6]))
 (.block 0
  (.loop
   (.seq (.seq (.ops [⟨(some 8), none, .move (.t 6)⟩,
     ⟨(some 9), none, .move (.t 0)⟩,
     ⟨(some 10), none, .len (.t 9)⟩,
     ⟨(some 11), none, .bin .lss 3 (.t 8) (.t 10)⟩] (some [0, 1, 5, 6, 11]))
   (.cond (.t 11)
    .skip
    (.exit 0)))
   (.seq (.block 1
    (.seq (.seq (.ops [⟨(some 14), none, .move (.t 6)⟩,
      ⟨(some 15), none, .bin .add 3 (.t 14) (.c (.int .i64 1))⟩,
      ⟨(some 16), none, .move (.t 0)⟩,
      ⟨(some 17), none, .len (.t 16)⟩,
      ⟨(some 18), none, .bin .lss 3 (.t 15) (.t 17)⟩,
      ⟨(some 19), none, .move (.t 18)⟩,
      ⟨(some 20), (some (19, true)), .move (.t 0)⟩,
      ⟨(some 21), (some (19, true)), .move (.t 6)⟩,
      ⟨(some 22), (some (19, true)), .bin .add 3 (.t 21) (.c (.int .i64 1))⟩,
      ⟨(some 23), (some (19, true)), .indexAddr 5 (.t 20) (.t 22)⟩,
      ⟨(some 24), (some (19, true)), .fieldAddr 0 (.t 23)⟩,
      ⟨(some 25), (some (19, true)), .load false 1 (.t 24)⟩,
      ⟨(some 26), (some (19, true)), .move (.t 1)⟩,
      ⟨(some 27), (some (19, true)), .bin .leq 3 (.t 25) (.t 26)⟩,
      ⟨(some 28), none, .pick (.t 19) (.t 27) (.c (.bool false))⟩] (some [0, 1, 5, 6, 28]))
    (.cond (.t 28)
     (.exit 1)
     .skip))
    (.ops [⟨(some 29), none, .move (.t 5)⟩,
      ⟨(some 30), none, .move (.t 0)⟩,
      ⟨(some 31), none, .move (.t 6)⟩,
      ⟨(some 32), none, .indexAddr 5 (.t 30) (.t 31)⟩,
      ⟨(some 33), none, .load true 5 (.t 32)⟩,
      ⟨(some 34), none, .buildSlice [(.int .i64 0), (.bool false), (.bool false), (.string .empty), (.int .u64 0)] 5 1 [(0, (.t 33))]⟩,
      ⟨(some 35), none, .append 5 48 [(.int .i64 0), (.bool false), (.bool false), (.string .empty), (.int .u64 0)] (.t 29) (.t 34)⟩,
      ⟨(some 5), none, .move (.t 35)⟩] (some [0, 1, 5, 6]))))
   (.ops [⟨(some 12), none, .move (.t 6)⟩,
     ⟨(some 13), none, .bin .add 3 (.t 12) (.c (.int .i64 1))⟩,
     ⟨(some 6), none, .move (.t 13)⟩] (some [0, 1, 5, 6])))))))
 (.seq (.seq (.ops [⟨(some 36), none, .move (.t 5)⟩,
   ⟨(some 37), none, .len (.t 36)⟩,
   ⟨(some 38), none, .bin .gtr 3 (.t 37) (.c (.int .i64 0))⟩,
   ⟨(some 39), none, .move (.t 38)⟩,
   ⟨(some 40), (some (39, true)), .move (.t 5)⟩,
   ⟨(some 41), (some (39, true)), .indexAddr 5 (.t 40) (.c (.int .i64 0))⟩,
   ⟨(some 42), (some (39, true)), .fieldAddr 1 (.t 41)⟩,
   ⟨(some 43), (some (39, true)), .load false 1 (.t 42)⟩,
   ⟨(some 44), none, .pick (.t 39) (.t 43) (.c (.bool false))⟩,
   ⟨(some 45), none, .move (.t 44)⟩,
   ⟨(some 46), (some (45, true)), .move (.t 5)⟩,
   ⟨(some 47), (some (45, true)), .indexAddr 5 (.t 46) (.c (.int .i64 0))⟩,
   ⟨(some 48), (some (45, true)), .fieldAddr 0 (.t 47)⟩,
   ⟨(some 49), (some (45, true)), .load false 1 (.t 48)⟩,
   ⟨(some 50), (some (45, true)), .move (.t 1)⟩,
   ⟨(some 51), (some (45, true)), .bin .leq 3 (.t 49) (.t 50)⟩,
   ⟨(some 52), none, .pick (.t 45) (.t 51) (.c (.bool false))⟩] (some [5, 52]))
 (.cond (.t 52)
  (.seq (.ops [⟨(some 53), none, .move (.t 5)⟩,
    ⟨(some 54), none, .slice 5 (.t 53) (some (.c (.int .i64 1))) none none⟩,
    ⟨(some 4), none, .move (.t 54)⟩] (some [4]))
  .ret)
  .skip))
 (.seq (.ops [⟨(some 55), none, .move (.t 5)⟩,
   ⟨(some 4), none, .move (.t 55)⟩] (some [4]))
 .ret))))), [.tmp 4]⟩

/-- cloisonne/chain.Old -/
def x13 : XDecl := .code ⟨2, 
 (.seq (.ops [⟨(some 4), none, .move (.c (.int .i64 0))⟩] (some [0, 1]))
 (.seq (.seq (.ops [⟨(some 6), none, .move (.t 0)⟩,
   ⟨(some 7), none, .call (.c (.func (.func 17) #[] #[])) [(.t 6)]⟩,
   ⟨(some 8), none, .un .not (.t 7)⟩,
   ⟨(some 9), none, .move (.t 8)⟩,
   ⟨(some 10), (some (9, false)), .move (.t 1)⟩,
   ⟨(some 11), (some (9, false)), .bin .lss 3 (.t 10) (.c (.int .i64 1))⟩,
   ⟨(some 12), none, .pick (.t 9) (.c (.bool true)) (.t 11)⟩] (some [0, 1, 12]))
 (.cond (.t 12)
  (.seq (.ops [⟨(some 4), none, .move (.c (.int .i64 0))⟩] (some [4]))
  .ret)
  .skip))
 (.seq (.ops [⟨(some 13), none, .move (.t 0)⟩,
   ⟨(some 14), none, .move (.t 1)⟩,
   ⟨(some 15), none, .call (.c (.func (.func 24) #[] #[])) [(.t 13), (.t 14)]⟩,
   ⟨(some 5), none, .move (.t 15)⟩] (some [0, 5]))
 (.seq (.seq (.ops [⟨(some 16), none, .move (.t 5)⟩,
   ⟨(some 17), none, .bin .gtr 3 (.t 16) (.c (.int .i64 0))⟩,
   ⟨(some 18), none, .move (.t 17)⟩,
   ⟨(some 19), (some (18, true)), .move (.t 0)⟩,
   ⟨(some 20), (some (18, true)), .move (.t 5)⟩,
   ⟨(some 21), (some (18, true)), .bin .sub 3 (.t 20) (.c (.int .i64 1))⟩,
   ⟨(some 22), (some (18, true)), .indexAddr 5 (.t 19) (.t 21)⟩,
   ⟨(some 23), (some (18, true)), .fieldAddr 1 (.t 22)⟩,
   ⟨(some 24), (some (18, true)), .load false 1 (.t 23)⟩,
   ⟨(some 25), (some (18, true)), .un .not (.t 24)⟩,
   ⟨(some 26), none, .pick (.t 18) (.t 25) (.c (.bool false))⟩] (some [5, 26]))
 (.cond (.t 26)
  (.ops [⟨(some 27), none, .move (.t 5)⟩,
    ⟨(some 28), none, .bin .sub 3 (.t 27) (.c (.int .i64 1))⟩,
    ⟨(some 5), none, .move (.t 28)⟩] (some [5]))
  .skip))
 (.seq (.ops [⟨(some 29), none, .move (.t 5)⟩,
   ⟨(some 4), none, .move (.t 29)⟩] (some [4]))
 .ret))))), [.tmp 4]⟩

/-- cloisonne/chain.Add -/
def x14 : XDecl := .code ⟨2, 
 (.seq (.ops [⟨(some 3), none, .box (.t 1)⟩,
   ⟨(some 4), none, .move (.c (.slice none 0 0))⟩,
   ⟨(some 5), none, .move (.c (.int .i64 0))⟩] (some [0, 3]))
 (.seq (.opsd [(0, 0, ⟨(some 7), none, .move (.t 0)⟩),
   (2, 0, ⟨(some 9), none, .load true 5 (.t 3)⟩),
   (3, 4, ⟨(some 10), none, .buildSlice [(.int .i64 0), (.bool false), (.bool false), (.string .empty), (.int .u64 0)] 5 1 [(0, (.t 9))]⟩),
   (1, 1, ⟨(some 8), none, .call (.c (.func (.func 23) #[] #[])) [(.t 7)]⟩),
   (4, 15, ⟨(some 11), none, .append 5 48 [(.int .i64 0), (.bool false), (.bool false), (.string .empty), (.int .u64 0)] (.t 8) (.t 10)⟩),
   (5, 31, ⟨(some 6), none, .move (.t 11)⟩)] (some [6]))
 (.seq (.seq (.ops [⟨(some 12), none, .move (.t 6)⟩,
   ⟨(some 13), none, .call (.c (.func (.func 17) #[] #[])) [(.t 12)]⟩,
   ⟨(some 14), none, .un .not (.t 13)⟩] (some [6, 14]))
 (.cond (.t 14)
  (.seq (.ops [⟨(some 4), none, .move (.c (.slice none 0 0))⟩,
    ⟨(some 5), none, .move (.c (.int .i64 1))⟩] (some [4, 5]))
  .ret)
  .skip))
 (.seq (.ops [⟨(some 15), none, .move (.t 6)⟩,
   ⟨(some 4), none, .move (.t 15)⟩,
   ⟨(some 5), none, .move (.c (.int .i64 0))⟩] (some [4, 5]))
 .ret)))), [.tmp 4, .tmp 5]⟩

/-- cloisonne/chain.At -/
def x15 : XDecl := .code ⟨2, 
 (.seq (.ops [⟨(some 4), none, .alloc [(.int .i64 0), (.bool false), (.bool false), (.string .empty), (.int .u64 0)]⟩,
   ⟨(some 5), none, .move (.c (.bool false))⟩] (some [0, 1, 4]))
 (.seq (.seq (.ops [⟨(some 7), none, .move (.t 0)⟩,
   ⟨(some 8), none, .call (.c (.func (.func 17) #[] #[])) [(.t 7)]⟩,
   ⟨(some 9), none, .un .not (.t 8)⟩,
   ⟨(some 10), none, .move (.t 9)⟩,
   ⟨(some 11), (some (10, false)), .move (.t 1)⟩,
   ⟨(some 12), (some (10, false)), .bin .lss 3 (.t 11) (.c (.int .i64 1))⟩,
   ⟨(some 13), none, .pick (.t 10) (.c (.bool true)) (.t 12)⟩] (some [0, 1, 4, 13]))
 (.cond (.t 13)
  (.seq (.ops [⟨(some 14), none, .build [(.int .i64 0), (.bool false), (.bool false), (.string .empty), (.int .u64 0)] [(0, 1), (1, 1), (2, 3)] []⟩,
    ⟨none, none, .store 5 (.t 4) (.t 14)⟩,
    ⟨(some 5), none, .move (.c (.bool false))⟩] (some [4, 5]))
  .ret)
  .skip))
 (.seq (.ops [⟨(some 15), none, .move (.t 0)⟩,
   ⟨(some 16), none, .move (.t 1)⟩,
   ⟨(some 17), none, .call (.c (.func (.func 24) #[] #[])) [(.t 15), (.t 16)]⟩,
   ⟨(some 6), none, .move (.t 17)⟩] (some [0, 4, 6]))
 (.seq (.seq (.ops [⟨(some 18), none, .move (.t 6)⟩,
   ⟨(some 19), none, .bin .eql 3 (.t 18) (.c (.int .i64 0))⟩,
   ⟨(some 20), none, .move (.t 19)⟩,
   ⟨(some 21), (some (20, false)), .move (.t 0)⟩,
   ⟨(some 22), (some (20, false)), .move (.t 6)⟩,
   ⟨(some 23), (some (20, false)), .bin .sub 3 (.t 22) (.c (.int .i64 1))⟩,
   ⟨(some 24), (some (20, false)), .indexAddr 5 (.t 21) (.t 23)⟩,
   ⟨(some 25), (some (20, false)), .fieldAddr 1 (.t 24)⟩,
   ⟨(some 26), (some (20, false)), .load false 1 (.t 25)⟩,
   ⟨(some 27), none, .pick (.t 20) (.c (.bool true)) (.t 26)⟩] (some [0, 4, 6, 27]))
 (.cond (.t 27)
  (.seq (.ops [⟨(some 28), none, .build [(.int .i64 0), (.bool false), (.bool false), (.string .empty), (.int .u64 0)] [(0, 1), (1, 1), (2, 3)] []⟩,
    ⟨none, none, .store 5 (.t 4) (.t 28)⟩,
    ⟨(some 5), none, .move (.c (.bool false))⟩] (some [4, 5]))
  .ret)
  .skip))
 (.seq (.ops [⟨(some 29), none, .move (.t 0)⟩,
   ⟨(some 30), none, .move (.t 6)⟩,
   ⟨(some 31), none, .bin .sub 3 (.t 30) (.c (.int .i64 1))⟩,
   ⟨(some 32), none, .indexAddr 5 (.t 29) (.t 31)⟩,
   ⟨(some 33), none, .load true 5 (.t 32)⟩,
   ⟨none, none, .store 5 (.t 4) (.t 33)⟩,
   ⟨(some 5), none, .move (.c (.bool true))⟩] (some [4, 5]))
 .ret))))), [.cell true 5 4, .tmp 5]⟩

/-- cloisonne/chain.Last -/
def x16 : XDecl := .code ⟨1, 
 (.seq (.ops [⟨(some 2), none, .alloc [(.int .i64 0), (.bool false), (.bool false), (.string .empty), (.int .u64 0)]⟩,
   ⟨(some 3), none, .move (.c (.bool false))⟩] (some [0, 2]))
 (.seq (.seq (.ops [⟨(some 4), none, .move (.t 0)⟩,
   ⟨(some 5), none, .call (.c (.func (.func 17) #[] #[])) [(.t 4)]⟩,
   ⟨(some 6), none, .un .not (.t 5)⟩,
   ⟨(some 7), none, .move (.t 6)⟩,
   ⟨(some 8), (some (7, false)), .move (.t 0)⟩,
   ⟨(some 9), (some (7, false)), .len (.t 8)⟩,
   ⟨(some 10), (some (7, false)), .bin .eql 3 (.t 9) (.c (.int .i64 0))⟩,
   ⟨(some 11), none, .pick (.t 7) (.c (.bool true)) (.t 10)⟩] (some [0, 2, 11]))
 (.cond (.t 11)
  (.seq (.ops [⟨(some 12), none, .build [(.int .i64 0), (.bool false), (.bool false), (.string .empty), (.int .u64 0)] [(0, 1), (1, 1), (2, 3)] []⟩,
    ⟨none, none, .store 5 (.t 2) (.t 12)⟩,
    ⟨(some 3), none, .move (.c (.bool false))⟩] (some [2, 3]))
  .ret)
  .skip))
 (.seq (.ops [⟨(some 13), none, .move (.t 0)⟩,
   ⟨(some 14), none, .move (.t 0)⟩,
   ⟨(some 15), none, .len (.t 14)⟩,
   ⟨(some 16), none, .bin .sub 3 (.t 15) (.c (.int .i64 1))⟩,
   ⟨(some 17), none, .indexAddr 5 (.t 13) (.t 16)⟩,
   ⟨(some 18), none, .load true 5 (.t 17)⟩,
   ⟨none, none, .store 5 (.t 2) (.t 18)⟩,
   ⟨(some 3), none, .move (.c (.bool true))⟩] (some [2, 3]))
 .ret))), [.cell true 5 2, .tmp 3]⟩

/-- cloisonne/chain.Right -/
def x17 : XDecl := .code ⟨1, 
 (.seq (.ops [⟨(some 2), none, .move (.c (.bool false))⟩] (some [0]))
 (.seq (.seq (.ops [⟨(some 5), none, .move (.t 0)⟩,
   ⟨(some 6), none, .len (.t 5)⟩,
   ⟨(some 7), none, .move (.c (.int .i64 0))⟩] (some [0, 5, 6, 7]))
 (.block 0
  (.loop
   (.seq (.ops [⟨(some 8), none, .bin .lss 3 (.t 7) (.t 6)⟩] (some [0, 5, 6, 7, 8]))
   (.seq (.cond (.t 8)
    .skip
    (.exit 0))
   (.seq (.block 1
    (.seq (.ops [⟨(some 9), none, .move (.t 7)⟩,
      ⟨(some 10), none, .indexAddr 5 (.t 5) (.t 7)⟩,
      ⟨(some 11), none, .load true 5 (.t 10)⟩,
      ⟨(some 4), none, .alloc [(.int .i64 0), (.bool false), (.bool false), (.string .empty), (.int .u64 0)]⟩,
      ⟨(some 3), none, .move (.t 9)⟩,
      ⟨none, none, .store 5 (.t 4) (.t 11)⟩] (some [0, 3, 4, 5, 6, 7]))
    (.seq (.opsd [(0, 0, ⟨(some 12), none, .load true 5 (.t 4)⟩),
      (1, 1, ⟨(some 13), none, .call (.c (.func (.func 25) #[] #[])) [(.t 12)]⟩),
      (2, 3, ⟨(some 14), none, .un .not (.t 13)⟩),
      (3, 7, ⟨(some 15), none, .move (.t 14)⟩),
      (4, 15, ⟨(some 16), (some (15, false)), .move (.t 3)⟩),
      (5, 31, ⟨(some 17), (some (15, false)), .bin .gtr 3 (.t 16) (.c (.int .i64 0))⟩),
      (6, 63, ⟨(some 18), (some (15, false)), .move (.t 17)⟩),
      (7, 127, ⟨(some 19), (some (18, true)), .move (.t 0)⟩),
      (8, 127, ⟨(some 20), (some (18, true)), .move (.t 3)⟩),
      (9, 383, ⟨(some 21), (some (18, true)), .bin .sub 3 (.t 20) (.c (.int .i64 1))⟩),
      (10, 1023, ⟨(some 22), (some (18, true)), .indexAddr 5 (.t 19) (.t 21)⟩),
      (11, 2047, ⟨(some 23), (some (18, true)), .fieldAddr 0 (.t 22)⟩),
      (12, 4095, ⟨(some 24), (some (18, true)), .load false 1 (.t 23)⟩),
      (13, 127, ⟨(some 25), (some (18, true)), .fieldAddr 0 (.t 4)⟩),
      (14, 8319, ⟨(some 26), (some (18, true)), .load false 1 (.t 25)⟩),
      (15, 32767, ⟨(some 27), (some (18, true)), .bin .geq 3 (.t 24) (.t 26)⟩),
      (16, 65535, ⟨(some 28), (some (15, false)), .pick (.t 18) (.t 27) (.c (.bool false))⟩),
      (17, 131071, ⟨(some 29), none, .pick (.t 15) (.c (.bool true)) (.t 28)⟩)] (some [0, 5, 6, 7, 29]))
    (.cond (.t 29)
     (.seq (.ops [⟨(some 2), none, .move (.c (.bool false))⟩] (some [2]))
     .ret)
     .skip))))
   (.ops [⟨(some 30), none, .bin .add 3 (.t 7) (.c (.int .i64 1))⟩,
     ⟨(some 7), none, .move (.t 30)⟩] (some [0, 5, 6, 7]))))))))
 (.seq (.ops [⟨(some 2), none, .move (.c (.bool true))⟩] (some [2]))
 .ret))), [.tmp 2]⟩

/-- cloisonne/chain.Weight -/
def x18 : XDecl := .code ⟨1, 
 (.seq (.ops [⟨(some 2), none, .move (.c (.int .i64 0))⟩] (some [0]))
 (.seq (.ops [⟨(some 6), none, .move (.t 0)⟩,
   ⟨(some 7), none, .call (.c (.func (.func 16) #[] #[])) [(.t 6)]⟩,
   ⟨(some 5), none, .move (.t 7)⟩,
   ⟨(some 8), none, .extract (.t 5) 0⟩,
   ⟨(some 9), none, .extract (.t 5) 1⟩,
   ⟨(some 3), none, .alloc [(.int .i64 0), (.bool false), (.bool false), (.string .empty), (.int .u64 0)]⟩,
   ⟨none, none, .store 5 (.t 3) (.t 8)⟩,
   ⟨(some 4), none, .move (.t 9)⟩] (some [3, 4]))
 (.seq (.seq (.ops [⟨(some 10), none, .move (.t 4)⟩,
   ⟨(some 11), none, .un .not (.t 10)⟩,
   ⟨(some 12), none, .move (.t 11)⟩,
   ⟨(some 13), (some (12, false)), .fieldAddr 1 (.t 3)⟩,
   ⟨(some 14), (some (12, false)), .load false 1 (.t 13)⟩,
   ⟨(some 15), none, .pick (.t 12) (.c (.bool true)) (.t 14)⟩] (some [3, 15]))
 (.cond (.t 15)
  (.seq (.ops [⟨(some 2), none, .move (.c (.int .i64 0))⟩] (some [2]))
  .ret)
  .skip))
 (.seq (.ops [⟨(some 16), none, .fieldAddr 2 (.t 3)⟩,
   ⟨(some 17), none, .load true 3 (.t 16)⟩,
   ⟨(some 18), none, .call (.c (.func (.func 26) #[] #[])) [(.t 17)]⟩,
   ⟨(some 2), none, .move (.t 18)⟩] (some [2]))
 .ret)))), [.tmp 2]⟩

/-- cloisonne/cloisonneref09.At -/
def x19 : XDecl := .code ⟨2, 
 (.seq (.ops [⟨(some 4), none, .alloc [(.int .i64 0), (.bool false), (.bool false), (.string .empty), (.int .u64 0)]⟩,
   ⟨(some 5), none, .move (.c (.bool false))⟩] (some [0, 1, 4]))
 (.seq (.ops [⟨(some 9), none, .build [(.int .i64 0), (.bool false), (.bool false), (.string .empty), (.int .u64 0)] [(0, 1), (1, 1), (2, 3)] []⟩,
   ⟨(some 6), none, .alloc [(.int .i64 0), (.bool false), (.bool false), (.string .empty), (.int .u64 0)]⟩,
   ⟨none, none, .store 5 (.t 6) (.t 9)⟩] (some [0, 1, 4, 6]))
 (.seq (.ops [⟨(some 7), none, .move (.c (.bool false))⟩] (some [0, 1, 4, 6, 7]))
 (.seq (.seq (.ops [⟨(some 8), none, .move (.c (.int .i64 0))⟩] (some [0, 1, 4, 6, 7, 8]))
 (.block 0
  (.loop
   (.seq (.seq (.ops [⟨(some 10), none, .move (.t 8)⟩,
     ⟨(some 11), none, .move (.t 0)⟩,
     ⟨(some 12), none, .len (.t 11)⟩,
     ⟨(some 13), none, .bin .lss 3 (.t 10) (.t 12)⟩] (some [0, 1, 4, 6, 7, 8, 13]))
   (.cond (.t 13)
    .skip
    (.exit 0)))
   (.seq (.block 1
    (.seq (.ops [⟨(some 16), none, .move (.t 0)⟩,
      ⟨(some 17), none, .move (.t 8)⟩,
      ⟨(some 18), none, .indexAddr 5 (.t 16) (.t 17)⟩,
      ⟨(some 19), none, .fieldAddr 0 (.t 18)⟩,
      ⟨(some 20), none, .load false 1 (.t 19)⟩,
      ⟨(some 21), none, .move (.t 1)⟩,
      ⟨(some 22), none, .bin .leq 3 (.t 20) (.t 21)⟩] (some [0, 1, 4, 6, 7, 8, 22]))
    (.cond (.t 22)
     (.seq (.ops [⟨(some 23), none, .move (.t 0)⟩,
       ⟨(some 24), none, .move (.t 8)⟩,
       ⟨(some 25), none, .indexAddr 5 (.t 23) (.t 24)⟩,
       ⟨(some 26), none, .load true 5 (.t 25)⟩,
       ⟨none, none, .store 5 (.t 6) (.t 26)⟩] (some [0, 1, 4, 6, 8]))
     (.ops [⟨(some 27), none, .fieldAddr 1 (.t 6)⟩,
       ⟨(some 28), none, .load false 1 (.t 27)⟩,
       ⟨(some 29), none, .un .not (.t 28)⟩,
       ⟨(some 7), none, .move (.t 29)⟩] (some [0, 1, 4, 6, 7, 8])))
     .skip)))
   (.ops [⟨(some 14), none, .move (.t 8)⟩,
     ⟨(some 15), none, .bin .add 3 (.t 14) (.c (.int .i64 1))⟩,
     ⟨(some 8), none, .move (.t 15)⟩] (some [0, 1, 4, 6, 7, 8])))))))
 (.seq (.seq (.ops [⟨(some 30), none, .move (.t 7)⟩,
   ⟨(some 31), none, .un .not (.t 30)⟩] (some [4, 6, 31]))
 (.cond (.t 31)
  (.seq (.ops [⟨(some 32), none, .build [(.int .i64 0), (.bool false), (.bool false), (.string .empty), (.int .u64 0)] [(0, 1), (1, 1), (2, 3)] []⟩,
    ⟨none, none, .store 5 (.t 4) (.t 32)⟩,
    ⟨(some 5), none, .move (.c (.bool false))⟩] (some [4, 5]))
  .ret)
  .skip))
 (.seq (.ops [⟨(some 33), none, .load true 5 (.t 6)⟩,
   ⟨none, none, .store 5 (.t 4) (.t 33)⟩,
   ⟨(some 5), none, .move (.c (.bool true))⟩] (some [4, 5]))
 .ret)))))), [.cell true 5 4, .tmp 5]⟩

/-- cloisonne/cloisonneref09.Weight -/
def x20 : XDecl := .code ⟨1, 
 (.seq (.ops [⟨(some 2), none, .move (.c (.int .i64 0))⟩] (some [0]))
 (.seq (.seq (.ops [⟨(some 3), none, .move (.t 0)⟩,
   ⟨(some 4), none, .len (.t 3)⟩,
   ⟨(some 5), none, .bin .eql 3 (.t 4) (.c (.int .i64 0))⟩,
   ⟨(some 6), none, .move (.t 5)⟩,
   ⟨(some 7), (some (6, false)), .move (.t 0)⟩,
   ⟨(some 8), (some (6, false)), .move (.t 0)⟩,
   ⟨(some 9), (some (6, false)), .len (.t 8)⟩,
   ⟨(some 10), (some (6, false)), .bin .sub 3 (.t 9) (.c (.int .i64 1))⟩,
   ⟨(some 11), (some (6, false)), .indexAddr 5 (.t 7) (.t 10)⟩,
   ⟨(some 12), (some (6, false)), .fieldAddr 1 (.t 11)⟩,
   ⟨(some 13), (some (6, false)), .load false 1 (.t 12)⟩,
   ⟨(some 14), none, .pick (.t 6) (.c (.bool true)) (.t 13)⟩] (some [0, 14]))
 (.cond (.t 14)
  (.seq (.ops [⟨(some 2), none, .move (.c (.int .i64 0))⟩] (some [2]))
  .ret)
  .skip))
 (.seq (.ops [⟨(some 15), none, .move (.t 0)⟩,
   ⟨(some 16), none, .move (.t 0)⟩,
   ⟨(some 17), none, .len (.t 16)⟩,
   ⟨(some 18), none, .bin .sub 3 (.t 17) (.c (.int .i64 1))⟩,
   ⟨(some 19), none, .indexAddr 5 (.t 15) (.t 18)⟩,
   ⟨(some 20), none, .fieldAddr 2 (.t 19)⟩,
   ⟨(some 21), none, .load true 3 (.t 20)⟩,
   ⟨(some 22), none, .call (.c (.func (.func 21) #[] #[])) [(.t 21)]⟩,
   ⟨(some 23), none, .calcB .len [9] 3 [(.t 22)]⟩,
   ⟨(some 2), none, .move (.t 23)⟩] (some [2]))
 .ret))), [.tmp 2]⟩

/-- cloisonne/cloisonneref04.Pack -/
def x21 : XDecl := .code ⟨1, 
 (.seq (.ops [⟨(some 1), none, .box (.t 0)⟩,
   ⟨(some 2), none, .move (.c (.string .empty))⟩] (some [1]))
 (.seq (.seq (.ops [⟨(some 3), none, .fieldAddr 0 (.t 1)⟩,
   ⟨(some 4), none, .load false 1 (.t 3)⟩] (some [1, 4]))
 (.cond (.t 4)
  (.seq (.opsd [(0, 0, ⟨(some 5), none, .buildSlice [(.int .u8 0)] 1 1 [(0, (.c (.int .u8 1)))]⟩),
    (1, 1, ⟨(some 6), none, .bstr (.t 5)⟩),
    (2, 0, ⟨(some 7), none, .fieldAddr 2 (.t 1)⟩),
    (3, 4, ⟨(some 8), none, .load false 1 (.t 7)⟩),
    (4, 12, ⟨(some 9), none, .call (.c (.func (.func 28) #[] #[])) [(.t 8)]⟩),
    (5, 28, ⟨(some 10), none, .call (.c (.func (.func 27) #[] #[])) [(.t 9)]⟩),
    (6, 63, ⟨(some 11), none, .bin .add 9 (.t 6) (.t 10)⟩),
    (7, 127, ⟨(some 2), none, .move (.t 11)⟩)] (some [2]))
  .ret)
  .skip))
 (.seq (.ops [⟨(some 12), none, .buildSlice [(.int .u8 0)] 1 1 [(0, (.c (.int .u8 0)))]⟩,
   ⟨(some 13), none, .bstr (.t 12)⟩,
   ⟨(some 14), none, .fieldAddr 1 (.t 1)⟩,
   ⟨(some 15), none, .load false 1 (.t 14)⟩,
   ⟨(some 16), none, .bin .add 9 (.t 13) (.t 15)⟩,
   ⟨(some 2), none, .move (.t 16)⟩] (some [2]))
 .ret))), [.tmp 2]⟩

/-- cloisonne/cloisonneref04.Right -/
def x22 : XDecl := .code ⟨1, 
 (.seq (.ops [⟨(some 1), none, .box (.t 0)⟩,
   ⟨(some 2), none, .move (.c (.bool false))⟩] (some [1]))
 (.seq (.seq (.ops [⟨(some 3), none, .fieldAddr 0 (.t 1)⟩,
   ⟨(some 4), none, .load false 1 (.t 3)⟩,
   ⟨(some 5), none, .un .not (.t 4)⟩] (some [1, 5]))
 (.cond (.t 5)
  (.seq (.ops [⟨(some 6), none, .fieldAddr 2 (.t 1)⟩,
    ⟨(some 7), none, .load false 1 (.t 6)⟩,
    ⟨(some 8), none, .bin .eql 29 (.t 7) (.c (.int .u64 0))⟩,
    ⟨(some 9), none, .move (.t 8)⟩,
    ⟨(some 10), (some (9, true)), .fieldAddr 1 (.t 1)⟩,
    ⟨(some 11), (some (9, true)), .load false 1 (.t 10)⟩,
    ⟨(some 12), (some (9, true)), .calcB .len [9] 3 [(.t 11)]⟩,
    ⟨(some 13), (some (9, true)), .bin .leq 3 (.t 12) (.c (.int .i64 64))⟩,
    ⟨(some 14), none, .pick (.t 9) (.t 13) (.c (.bool false))⟩,
    ⟨(some 2), none, .move (.t 14)⟩] (some [2]))
  .ret)
  .skip))
 (.seq (.opsd [(0, 0, ⟨(some 15), none, .fieldAddr 1 (.t 1)⟩),
   (1, 1, ⟨(some 16), none, .load false 1 (.t 15)⟩),
   (2, 3, ⟨(some 17), none, .calcB .len [9] 3 [(.t 16)]⟩),
   (3, 7, ⟨(some 18), none, .bin .eql 3 (.t 17) (.c (.int .i64 0))⟩),
   (4, 15, ⟨(some 19), none, .move (.t 18)⟩),
   (5, 31, ⟨(some 20), (some (19, true)), .fieldAddr 2 (.t 1)⟩),
   (6, 63, ⟨(some 21), (some (19, true)), .load false 1 (.t 20)⟩),
   (9, 31, ⟨(some 24), (some (19, true)), .fieldAddr 2 (.t 1)⟩),
   (10, 543, ⟨(some 25), (some (19, true)), .load false 1 (.t 24)⟩),
   (7, 127, ⟨(some 22), (some (19, true)), .call (.c (.func (.func 28) #[] #[])) [(.t 21)]⟩),
   (8, 255, ⟨(some 23), (some (19, true)), .call (.c (.func (.func 29) #[] #[])) [(.t 22)]⟩),
   (11, 2047, ⟨(some 26), (some (19, true)), .bin .eql 29 (.t 23) (.t 25)⟩),
   (12, 4095, ⟨(some 27), none, .pick (.t 19) (.t 26) (.c (.bool false))⟩),
   (13, 8191, ⟨(some 2), none, .move (.t 27)⟩)] (some [2]))
 .ret))), [.tmp 2]⟩

/-- slices.Clone[[]cloisonne/api.Version,cloisonne/api.Version] -/
def x23 : XDecl := .code ⟨1, 
 (.seq (.ops [⟨(some 2), none, .move (.c (.slice none 0 0))⟩] (some [0]))
 (.seq (.seq (.ops [⟨(some 3), none, .move (.t 0)⟩,
   ⟨(some 4), none, .isNil .slice false (.t 3)⟩] (some [0, 4]))
 (.cond (.t 4)
  (.seq (.ops [⟨(some 2), none, .move (.c (.slice none 0 0))⟩] (some [2]))
  .ret)
  .skip))
 (.seq (.ops [⟨(some 5), none, .buildSlice [(.int .i64 0), (.bool false), (.bool false), (.string .empty), (.int .u64 0)] 5 0 []⟩,
   ⟨(some 6), none, .move (.t 0)⟩,
   ⟨(some 7), none, .append 5 48 [(.int .i64 0), (.bool false), (.bool false), (.string .empty), (.int .u64 0)] (.t 5) (.t 6)⟩,
   ⟨(some 2), none, .move (.t 7)⟩] (some [2]))
 .ret))), [.tmp 2]⟩

/-- cloisonne/chain.behind -/
def x24 : XDecl := .code ⟨2, 
 (.seq (.ops [⟨(some 4), none, .move (.c (.int .i64 0))⟩] (some [0, 1]))
 (.seq (.ops [⟨(some 8), none, .move (.t 0)⟩,
   ⟨(some 9), none, .move (.t 1)⟩,
   ⟨(some 10), none, .call (.c (.func (.func 30) #[] #[])) [(.t 8), (.t 9), (.c (.func (.func 31) #[] #[]))]⟩,
   ⟨(some 7), none, .move (.t 10)⟩,
   ⟨(some 11), none, .extract (.t 7) 0⟩,
   ⟨(some 12), none, .extract (.t 7) 1⟩,
   ⟨(some 5), none, .move (.t 11)⟩,
   ⟨(some 6), none, .move (.t 12)⟩] (some [5, 6]))
 (.seq (.seq (.ops [⟨(some 13), none, .move (.t 6)⟩] (some [5, 13]))
 (.cond (.t 13)
  (.ops [⟨(some 14), none, .move (.t 5)⟩,
    ⟨(some 15), none, .bin .add 3 (.t 14) (.c (.int .i64 1))⟩,
    ⟨(some 5), none, .move (.t 15)⟩] (some [5]))
  .skip))
 (.seq (.ops [⟨(some 16), none, .move (.t 5)⟩,
   ⟨(some 4), none, .move (.t 16)⟩] (some [4]))
 .ret)))), [.tmp 4]⟩

/-- cloisonne/chain.right -/
def x25 : XDecl := .code ⟨1, 
 (.seq (.ops [⟨(some 1), none, .box (.t 0)⟩,
   ⟨(some 2), none, .move (.c (.bool false))⟩] (some [1]))
 (.seq (.ops [⟨(some 3), none, .fieldAddr 0 (.t 1)⟩,
   ⟨(some 4), none, .load false 1 (.t 3)⟩,
   ⟨(some 5), none, .bin .geq 3 (.t 4) (.c (.int .i64 1))⟩,
   ⟨(some 6), none, .move (.t 5)⟩,
   ⟨(some 7), (some (6, true)), .fieldAddr 0 (.t 1)⟩,
   ⟨(some 8), (some (6, true)), .load false 1 (.t 7)⟩,
   ⟨(some 9), (some (6, true)), .bin .leq 3 (.t 8) (.c (.int .i64 1073741824))⟩,
   ⟨(some 10), none, .pick (.t 6) (.t 9) (.c (.bool false))⟩,
   ⟨(some 11), none, .move (.t 10)⟩,
   ⟨(some 12), (some (11, true)), .fieldAddr 2 (.t 1)⟩,
   ⟨(some 13), (some (11, true)), .load true 3 (.t 12)⟩,
   ⟨(some 14), (some (11, true)), .call (.c (.func (.func 32) #[] #[])) [(.t 13)]⟩,
   ⟨(some 15), none, .pick (.t 11) (.t 14) (.c (.bool false))⟩,
   ⟨(some 16), none, .move (.t 15)⟩,
   ⟨(some 17), (some (16, true)), .fieldAddr 1 (.t 1)⟩,
   ⟨(some 18), (some (16, true)), .load false 1 (.t 17)⟩,
   ⟨(some 19), (some (16, true)), .un .not (.t 18)⟩,
   ⟨(some 20), (some (16, true)), .move (.t 19)⟩,
   ⟨(some 21), (some (20, false)), .fieldAddr 2 (.t 1)⟩,
   ⟨(some 22), (some (20, false)), .load true 3 (.t 21)⟩,
   ⟨(some 23), (some (20, false)), .build [(.bool false), (.string .empty), (.int .u64 0)] [(0, 1), (1, 1), (2, 1)] []⟩,
   ⟨(some 24), (some (20, false)), .bin .eql 31 (.t 22) (.t 23)⟩,
   ⟨(some 25), (some (16, true)), .pick (.t 20) (.c (.bool true)) (.t 24)⟩,
   ⟨(some 26), none, .pick (.t 16) (.t 25) (.c (.bool false))⟩,
   ⟨(some 2), none, .move (.t 26)⟩] (some [2]))
 .ret)), [.tmp 2]⟩

/-- cloisonne/value.Weight -/
def x26 : XDecl := .code ⟨1, 
 (.seq (.ops [⟨(some 1), none, .box (.t 0)⟩,
   ⟨(some 2), none, .move (.c (.int .i64 0))⟩] (some [1]))
 (.seq (.ops [⟨(some 6), none, .load true 3 (.t 1)⟩,
   ⟨(some 7), none, .call (.c (.func (.func 33) #[] #[])) [(.t 6)]⟩,
   ⟨(some 5), none, .move (.t 7)⟩,
   ⟨(some 8), none, .extract (.t 5) 0⟩,
   ⟨(some 9), none, .extract (.t 5) 1⟩,
   ⟨(some 3), none, .move (.t 8)⟩,
   ⟨(some 4), none, .move (.t 9)⟩] (some [3]))
 (.seq (.ops [⟨(some 10), none, .move (.t 3)⟩,
   ⟨(some 11), none, .calcB .len [9] 3 [(.t 10)]⟩,
   ⟨(some 2), none, .move (.t 11)⟩] (some [2]))
 .ret))), [.tmp 2]⟩

/-- cloisonne/cloisonneref01.Key -/
def x27 : XDecl := .code ⟨1, 
 (.seq (.ops [⟨(some 2), none, .move (.c (.string .empty))⟩] (some [0]))
 (.seq (.ops [⟨(some 6), none, .move (.t 0)⟩,
   ⟨(some 7), none, .call (.c (.func (.func 34) #[] #[])) [(.t 6)]⟩,
   ⟨(some 3), none, .move (.t 7)⟩] (some [3]))
 (.seq (.ops [⟨(some 8), none, .makeSlice [(.int .u8 0)] 1 (.c (.int .i64 8)) (.c (.int .i64 8))⟩,
   ⟨(some 4), none, .move (.t 8)⟩] (some [3, 4]))
 (.seq (.seq (.ops [⟨(some 5), none, .move (.c (.int .i64 7))⟩] (some [3, 4, 5]))
 (.block 0
  (.loop
   (.seq (.seq (.ops [⟨(some 9), none, .move (.t 5)⟩,
     ⟨(some 10), none, .bin .geq 3 (.t 9) (.c (.int .i64 0))⟩] (some [3, 4, 5, 10]))
   (.cond (.t 10)
    .skip
    (.exit 0)))
   (.seq (.block 1
    (.seq (.ops [⟨(some 13), none, .move (.t 4)⟩,
      ⟨(some 14), none, .move (.t 5)⟩,
      ⟨(some 15), none, .move (.t 3)⟩,
      ⟨(some 16), none, .bin .rem 29 (.t 15) (.c (.int .u64 256))⟩,
      ⟨(some 17), none, .conv 29 5 (.t 16)⟩,
      ⟨(some 18), none, .indexAddr 1 (.t 13) (.t 14)⟩,
      ⟨none, none, .store 1 (.t 18) (.t 17)⟩] (some [3, 4, 5]))
    (.ops [⟨(some 19), none, .move (.t 3)⟩,
      ⟨(some 20), none, .bin .quo 29 (.t 19) (.c (.int .u64 256))⟩,
      ⟨(some 3), none, .move (.t 20)⟩] (some [3, 4, 5]))))
   (.ops [⟨(some 11), none, .move (.t 5)⟩,
     ⟨(some 12), none, .bin .sub 3 (.t 11) (.c (.int .i64 1))⟩,
     ⟨(some 5), none, .move (.t 12)⟩] (some [3, 4, 5])))))))
 (.seq (.ops [⟨(some 21), none, .move (.t 4)⟩,
   ⟨(some 22), none, .bstr (.t 21)⟩,
   ⟨(some 2), none, .move (.t 22)⟩] (some [2]))
 .ret))))), [.tmp 2]⟩

-- 28 math.Float64frombits: no body
def x28 : XDecl := .ext 28

/-- cloisonne/cloisonneref01.Bits -/
def x29 : XDecl := .code ⟨1, 
 (.seq (.ops [⟨(some 2), none, .move (.c (.int .u64 0))⟩] (some [0]))
 (.seq (.seq (.ops [⟨(some 3), none, .move (.t 0)⟩,
   ⟨(some 4), none, .call (.c (.func (.func 35) #[] #[])) [(.t 3)]⟩] (some [0, 4]))
 (.cond (.t 4)
  (.seq (.ops [⟨(some 2), none, .move (.c (.int .u64 9221120237041090561))⟩] (some [2]))
  .ret)
  .skip))
 (.seq (.ops [⟨(some 5), none, .move (.t 0)⟩,
   ⟨(some 6), none, .call (.c (.func (.func 36) #[] #[])) [(.t 5)]⟩,
   ⟨(some 2), none, .move (.t 6)⟩] (some [2]))
 .ret))), [.tmp 2]⟩

/-- slices.BinarySearchFunc[[]cloisonne/api.Version,cloisonne/api.Version,int] -/
def x30 : XDecl := .code ⟨3, 
 (.seq (.ops [⟨(some 6), none, .move (.c (.int .i64 0))⟩,
   ⟨(some 7), none, .move (.c (.bool false))⟩] (some [0, 1, 2]))
 (.seq (.ops [⟨(some 12), none, .move (.t 0)⟩,
   ⟨(some 13), none, .len (.t 12)⟩,
   ⟨(some 8), none, .move (.t 13)⟩] (some [0, 1, 2, 8]))
 (.seq (.ops [⟨(some 14), none, .move (.t 8)⟩,
   ⟨(some 9), none, .move (.c (.int .i64 0))⟩,
   ⟨(some 10), none, .move (.t 14)⟩] (some [0, 1, 2, 8, 9, 10]))
 (.seq (.block 0
  (.loop
   (.seq (.seq (.ops [⟨(some 15), none, .move (.t 9)⟩,
     ⟨(some 16), none, .move (.t 10)⟩,
     ⟨(some 17), none, .bin .lss 3 (.t 15) (.t 16)⟩] (some [0, 1, 2, 8, 9, 10, 17]))
   (.cond (.t 17)
    .skip
    (.exit 0)))
   (.block 1
    (.seq (.ops [⟨(some 18), none, .move (.t 9)⟩,
      ⟨(some 19), none, .move (.t 10)⟩,
      ⟨(some 20), none, .bin .add 3 (.t 18) (.t 19)⟩,
      ⟨(some 21), none, .conv 3 59 (.t 20)⟩,
      ⟨(some 22), none, .bin .shr 59 (.t 21) (.c (.int .u64 1))⟩,
      ⟨(some 23), none, .conv 59 3 (.t 22)⟩,
      ⟨(some 11), none, .move (.t 23)⟩] (some [0, 1, 2, 8, 9, 10, 11]))
    (.seq (.ops [⟨(some 24), none, .move (.t 2)⟩,
      ⟨(some 25), none, .move (.t 0)⟩,
      ⟨(some 26), none, .move (.t 11)⟩,
      ⟨(some 27), none, .indexAddr 5 (.t 25) (.t 26)⟩,
      ⟨(some 28), none, .load true 5 (.t 27)⟩,
      ⟨(some 29), none, .move (.t 1)⟩,
      ⟨(some 30), none, .call (.t 24) [(.t 28), (.t 29)]⟩,
      ⟨(some 31), none, .bin .lss 3 (.t 30) (.c (.int .i64 0))⟩] (some [0, 1, 2, 8, 9, 10, 11, 31]))
    (.cond (.t 31)
     (.ops [⟨(some 32), none, .move (.t 11)⟩,
       ⟨(some 33), none, .bin .add 3 (.t 32) (.c (.int .i64 1))⟩,
       ⟨(some 9), none, .move (.t 33)⟩] (some [0, 1, 2, 8, 9, 10]))
     (.ops [⟨(some 34), none, .move (.t 11)⟩,
       ⟨(some 10), none, .move (.t 34)⟩] (some [0, 1, 2, 8, 9, 10])))))))))
 (.seq (.ops [⟨(some 35), none, .move (.t 9)⟩,
   ⟨(some 36), none, .move (.t 9)⟩,
   ⟨(some 37), none, .move (.t 8)⟩,
   ⟨(some 38), none, .bin .lss 3 (.t 36) (.t 37)⟩,
   ⟨(some 39), none, .move (.t 38)⟩,
   ⟨(some 40), (some (39, true)), .move (.t 2)⟩,
   ⟨(some 41), (some (39, true)), .move (.t 0)⟩,
   ⟨(some 42), (some (39, true)), .move (.t 9)⟩,
   ⟨(some 43), (some (39, true)), .indexAddr 5 (.t 41) (.t 42)⟩,
   ⟨(some 44), (some (39, true)), .load true 5 (.t 43)⟩,
   ⟨(some 45), (some (39, true)), .move (.t 1)⟩,
   ⟨(some 46), (some (39, true)), .call (.t 40) [(.t 44), (.t 45)]⟩,
   ⟨(some 47), (some (39, true)), .bin .eql 3 (.t 46) (.c (.int .i64 0))⟩,
   ⟨(some 48), none, .pick (.t 39) (.t 47) (.c (.bool false))⟩,
   ⟨(some 6), none, .move (.t 35)⟩,
   ⟨(some 7), none, .move (.t 48)⟩] (some [6, 7]))
 .ret))))), [.tmp 6, .tmp 7]⟩

/-- cloisonne/chain.behind$1 -/
def x31 : XDecl := .code ⟨2, 
 (.seq (.ops [⟨(some 2), none, .box (.t 0)⟩,
   ⟨(some 4), none, .move (.c (.int .i64 0))⟩] (some [1, 2]))
 (.seq (.ops [⟨(some 5), none, .fieldAddr 0 (.t 2)⟩,
   ⟨(some 6), none, .load false 1 (.t 5)⟩,
   ⟨(some 7), none, .move (.t 1)⟩,
   ⟨(some 8), none, .bin .sub 3 (.t 6) (.t 7)⟩,
   ⟨(some 4), none, .move (.t 8)⟩] (some [4]))
 .ret)), [.tmp 4]⟩

/-- cloisonne/value.Right -/
def x32 : XDecl := .code ⟨1, 
 (.seq (.ops [⟨(some 1), none, .box (.t 0)⟩,
   ⟨(some 2), none, .move (.c (.bool false))⟩] (some [1]))
 (.seq (.seq (.ops [⟨(some 3), none, .fieldAddr 0 (.t 1)⟩,
   ⟨(some 4), none, .load false 1 (.t 3)⟩] (some [1, 4]))
 (.cond (.t 4)
  (.seq (.opsd [(0, 0, ⟨(some 5), none, .fieldAddr 1 (.t 1)⟩),
    (1, 1, ⟨(some 6), none, .load false 1 (.t 5)⟩),
    (2, 3, ⟨(some 7), none, .bin .eql 9 (.t 6) (.c (.string .empty))⟩),
    (3, 7, ⟨(some 8), none, .move (.t 7)⟩),
    (4, 15, ⟨(some 9), (some (8, true)), .fieldAddr 2 (.t 1)⟩),
    (5, 31, ⟨(some 10), (some (8, true)), .load false 1 (.t 9)⟩),
    (8, 15, ⟨(some 13), (some (8, true)), .fieldAddr 2 (.t 1)⟩),
    (9, 271, ⟨(some 14), (some (8, true)), .load false 1 (.t 13)⟩),
    (6, 63, ⟨(some 11), (some (8, true)), .call (.c (.func (.func 38) #[] #[])) [(.t 10)]⟩),
    (7, 127, ⟨(some 12), (some (8, true)), .call (.c (.func (.func 37) #[] #[])) [(.t 11)]⟩),
    (10, 1023, ⟨(some 15), (some (8, true)), .bin .eql 29 (.t 12) (.t 14)⟩),
    (11, 2047, ⟨(some 16), none, .pick (.t 8) (.t 15) (.c (.bool false))⟩),
    (12, 4095, ⟨(some 2), none, .move (.t 16)⟩)] (some [2]))
  .ret)
  .skip))
 (.seq (.ops [⟨(some 17), none, .fieldAddr 2 (.t 1)⟩,
   ⟨(some 18), none, .load false 1 (.t 17)⟩,
   ⟨(some 19), none, .bin .eql 29 (.t 18) (.c (.int .u64 0))⟩,
   ⟨(some 20), none, .move (.t 19)⟩,
   ⟨(some 21), (some (20, true)), .fieldAddr 1 (.t 1)⟩,
   ⟨(some 22), (some (20, true)), .load false 1 (.t 21)⟩,
   ⟨(some 23), (some (20, true)), .calcB .len [9] 3 [(.t 22)]⟩,
   ⟨(some 24), (some (20, true)), .bin .leq 3 (.t 23) (.c (.int .i64 64))⟩,
   ⟨(some 25), none, .pick (.t 20) (.t 24) (.c (.bool false))⟩,
   ⟨(some 2), none, .move (.t 25)⟩] (some [2]))
 .ret))), [.tmp 2]⟩

/-- cloisonne/value.Pack -/
def x33 : XDecl := .code ⟨1, 
 (.seq (.ops [⟨(some 1), none, .box (.t 0)⟩,
   ⟨(some 2), none, .move (.c (.string .empty))⟩,
   ⟨(some 3), none, .move (.c (.int .i64 0))⟩] (some [1]))
 (.seq (.block 0
  (.seq (.ops [⟨(some 5), none, .load true 3 (.t 1)⟩,
    ⟨(some 6), none, .call (.c (.func (.func 32) #[] #[])) [(.t 5)]⟩,
    ⟨(some 7), none, .un .not (.t 6)⟩,
    ⟨(some 4), none, .move (.t 7)⟩] (some [1, 4]))
  (.cond (.t 4)
   (.seq (.ops [⟨(some 2), none, .move (.c (.string .empty))⟩,
     ⟨(some 3), none, .move (.c (.int .i64 1))⟩] (some [2, 3]))
   .ret)
   (.seq (.ops [⟨(some 9), none, .fieldAddr 0 (.t 1)⟩,
     ⟨(some 10), none, .load false 1 (.t 9)⟩,
     ⟨(some 8), none, .move (.t 10)⟩] (some [1, 8]))
   (.cond (.t 8)
    (.seq (.ops [⟨(some 11), none, .fieldAddr 2 (.t 1)⟩,
      ⟨(some 12), none, .load false 1 (.t 11)⟩,
      ⟨(some 13), none, .call (.c (.func (.func 38) #[] #[])) [(.t 12)]⟩,
      ⟨(some 14), none, .call (.c (.func (.func 39) #[] #[])) [(.t 13)]⟩,
      ⟨(some 15), none, .bin .add 9 (.c (.string ⟨#[1]⟩)) (.t 14)⟩,
      ⟨(some 2), none, .move (.t 15)⟩,
      ⟨(some 3), none, .move (.c (.int .i64 0))⟩] (some [2, 3]))
    .ret)
    .skip)))))
 (.seq (.ops [⟨(some 16), none, .fieldAddr 1 (.t 1)⟩,
   ⟨(some 17), none, .load false 1 (.t 16)⟩,
   ⟨(some 18), none, .bin .add 9 (.c (.string ⟨#[0]⟩)) (.t 17)⟩,
   ⟨(some 2), none, .move (.t 18)⟩,
   ⟨(some 3), none, .move (.c (.int .i64 0))⟩] (some [2, 3]))
 .ret))), [.tmp 2, .tmp 3]⟩

/-- cloisonne/cloisonneref01.Place -/
def x34 : XDecl := .code ⟨1, 
 (.seq (.ops [⟨(some 2), none, .move (.c (.int .u64 0))⟩] (some [0]))
 (.seq (.seq (.ops [⟨(some 7), none, .move (.t 0)⟩,
   ⟨(some 8), none, .call (.c (.func (.func 35) #[] #[])) [(.t 7)]⟩] (some [0, 8]))
 (.cond (.t 8)
  (.seq (.ops [⟨(some 2), none, .move (.c (.int .u64 18437736874454810626))⟩] (some [2]))
  .ret)
  .skip))
 (.seq (.ops [⟨(some 10), none, .move (.t 0)⟩,
   ⟨(some 11), none, .call (.c (.func (.func 40) #[] #[])) [(.t 10)]⟩,
   ⟨(some 9), none, .move (.t 11)⟩,
   ⟨(some 12), none, .extract (.t 9) 0⟩,
   ⟨(some 13), none, .extract (.t 9) 1⟩,
   ⟨(some 14), none, .extract (.t 9) 2⟩,
   ⟨(some 3), none, .move (.t 12)⟩,
   ⟨(some 4), none, .move (.t 13)⟩,
   ⟨(some 5), none, .move (.t 14)⟩] (some [3, 4, 5]))
 (.seq (.ops [⟨(some 15), none, .move (.t 4)⟩,
   ⟨(some 16), none, .bin .mul 29 (.t 15) (.c (.int .u64 4503599627370496))⟩,
   ⟨(some 17), none, .move (.t 5)⟩,
   ⟨(some 18), none, .bin .add 29 (.t 16) (.t 17)⟩,
   ⟨(some 6), none, .move (.t 18)⟩] (some [3, 6]))
 (.seq (.seq (.ops [⟨(some 19), none, .move (.t 3)⟩] (some [6, 19]))
 (.cond (.t 19)
  (.seq (.ops [⟨(some 20), none, .move (.t 6)⟩,
    ⟨(some 21), none, .bin .sub 29 (.c (.int .u64 9218868437227405312)) (.t 20)⟩,
    ⟨(some 2), none, .move (.t 21)⟩] (some [2]))
  .ret)
  .skip))
 (.seq (.ops [⟨(some 22), none, .move (.t 6)⟩,
   ⟨(some 23), none, .bin .add 29 (.c (.int .u64 9218868437227405313)) (.t 22)⟩,
   ⟨(some 2), none, .move (.t 23)⟩] (some [2]))
 .ret)))))), [.tmp 2]⟩

/-- cloisonne/cloisonneref01.NaN -/
def x35 : XDecl := .code ⟨1, 
 (.seq (.ops [⟨(some 2), none, .move (.c (.bool false))⟩] (some [0]))
 (.seq (.ops [⟨(some 7), none, .move (.t 0)⟩,
   ⟨(some 8), none, .call (.c (.func (.func 40) #[] #[])) [(.t 7)]⟩,
   ⟨(some 6), none, .move (.t 8)⟩,
   ⟨(some 9), none, .extract (.t 6) 0⟩,
   ⟨(some 10), none, .extract (.t 6) 1⟩,
   ⟨(some 11), none, .extract (.t 6) 2⟩,
   ⟨(some 3), none, .move (.t 9)⟩,
   ⟨(some 4), none, .move (.t 10)⟩,
   ⟨(some 5), none, .move (.t 11)⟩] (some [4, 5]))
 (.seq (.ops [⟨(some 12), none, .move (.t 4)⟩,
   ⟨(some 13), none, .bin .eql 29 (.t 12) (.c (.int .u64 2047))⟩,
   ⟨(some 14), none, .move (.t 13)⟩,
   ⟨(some 15), (some (14, true)), .move (.t 5)⟩,
   ⟨(some 16), (some (14, true)), .bin .gtr 29 (.t 15) (.c (.int .u64 0))⟩,
   ⟨(some 17), none, .pick (.t 14) (.t 16) (.c (.bool false))⟩,
   ⟨(some 2), none, .move (.t 17)⟩] (some [2]))
 .ret))), [.tmp 2]⟩

-- 36 math.Float64bits: no body
def x36 : XDecl := .ext 36

/-- cloisonne/num.Bits -/
def x37 : XDecl := .code ⟨1, 
 (.seq (.ops [⟨(some 2), none, .move (.c (.int .u64 0))⟩] (some [0]))
 (.seq (.seq (.ops [⟨(some 3), none, .move (.t 0)⟩,
   ⟨(some 4), none, .call (.c (.func (.func 41) #[] #[])) [(.t 3)]⟩] (some [0, 4]))
 (.cond (.t 4)
  (.seq (.ops [⟨(some 2), none, .move (.c (.int .u64 9221120237041090561))⟩] (some [2]))
  .ret)
  .skip))
 (.seq (.ops [⟨(some 5), none, .move (.t 0)⟩,
   ⟨(some 6), none, .call (.c (.func (.func 36) #[] #[])) [(.t 5)]⟩,
   ⟨(some 2), none, .move (.t 6)⟩] (some [2]))
 .ret))), [.tmp 2]⟩

/-- cloisonne/num.From -/
def x38 : XDecl := .code ⟨1, 
 (.seq (.ops [⟨(some 2), none, .move (.c (.float .f64 0))⟩] (some [0]))
 (.seq (.ops [⟨(some 3), none, .move (.t 0)⟩,
   ⟨(some 4), none, .call (.c (.func (.func 28) #[] #[])) [(.t 3)]⟩,
   ⟨(some 5), none, .call (.c (.func (.func 37) #[] #[])) [(.t 4)]⟩,
   ⟨(some 6), none, .call (.c (.func (.func 28) #[] #[])) [(.t 5)]⟩,
   ⟨(some 2), none, .move (.t 6)⟩] (some [2]))
 .ret)), [.tmp 2]⟩

/-- cloisonne/num.Key -/
def x39 : XDecl := .code ⟨1, 
 (.seq (.ops [⟨(some 2), none, .move (.c (.string .empty))⟩] (some [0]))
 (.seq (.ops [⟨(some 3), none, .alloc [(.int .u8 0), (.int .u8 0), (.int .u8 0), (.int .u8 0), (.int .u8 0), (.int .u8 0), (.int .u8 0), (.int .u8 0)]⟩] (some [0, 3]))
 (.seq (.ops [⟨(some 6), none, .move (.t 0)⟩,
   ⟨(some 7), none, .call (.c (.func (.func 42) #[] #[])) [(.t 6)]⟩,
   ⟨(some 4), none, .move (.t 7)⟩] (some [3, 4]))
 (.seq (.seq (.ops [⟨(some 8), none, .move (.c (.int .i64 0))⟩] (some [3, 4, 8]))
 (.block 0
  (.loop
   (.seq (.ops [⟨(some 9), none, .bin .lss 3 (.t 8) (.c (.int .i64 8))⟩] (some [3, 4, 8, 9]))
   (.seq (.cond (.t 9)
    .skip
    (.exit 0))
   (.seq (.block 1
    (.seq (.ops [⟨(some 10), none, .move (.t 8)⟩,
      ⟨(some 5), none, .move (.t 10)⟩] (some [3, 4, 5, 8]))
    (.ops [⟨(some 11), none, .move (.t 5)⟩,
      ⟨(some 12), none, .move (.t 4)⟩,
      ⟨(some 13), none, .move (.t 5)⟩,
      ⟨(some 14), none, .bin .sub 3 (.c (.int .i64 7)) (.t 13)⟩,
      ⟨(some 15), none, .bin .mul 3 (.c (.int .i64 8)) (.t 14)⟩,
      ⟨(some 16), none, .bin .shr 29 (.t 12) (.t 15)⟩,
      ⟨(some 17), none, .conv 29 5 (.t 16)⟩,
      ⟨(some 18), none, .indexAddrArr 8 1 (.t 3) (.t 11)⟩,
      ⟨none, none, .store 1 (.t 18) (.t 17)⟩] (some [3, 4, 8]))))
   (.ops [⟨(some 19), none, .bin .add 3 (.t 8) (.c (.int .i64 1))⟩,
     ⟨(some 8), none, .move (.t 19)⟩] (some [3, 4, 8]))))))))
 (.seq (.ops [⟨(some 20), none, .arrSlice 8 (.t 3)⟩,
   ⟨(some 21), none, .bstr (.t 20)⟩,
   ⟨(some 2), none, .move (.t 21)⟩] (some [2]))
 .ret))))), [.tmp 2]⟩

/-- cloisonne/cloisonneref01.Parts -/
def x40 : XDecl := .code ⟨1, 
 (.seq (.ops [⟨(some 2), none, .move (.c (.bool false))⟩,
   ⟨(some 3), none, .move (.c (.int .u64 0))⟩,
   ⟨(some 4), none, .move (.c (.int .u64 0))⟩] (some [0]))
 (.seq (.ops [⟨(some 6), none, .move (.t 0)⟩,
   ⟨(some 7), none, .call (.c (.func (.func 36) #[] #[])) [(.t 6)]⟩,
   ⟨(some 5), none, .move (.t 7)⟩] (some [5]))
 (.seq (.ops [⟨(some 8), none, .move (.t 5)⟩,
   ⟨(some 9), none, .bin .geq 29 (.t 8) (.c (.int .u64 9223372036854775808))⟩,
   ⟨(some 10), none, .move (.t 5)⟩,
   ⟨(some 11), none, .bin .quo 29 (.t 10) (.c (.int .u64 4503599627370496))⟩,
   ⟨(some 12), none, .bin .rem 29 (.t 11) (.c (.int .u64 2048))⟩,
   ⟨(some 13), none, .move (.t 5)⟩,
   ⟨(some 14), none, .bin .rem 29 (.t 13) (.c (.int .u64 4503599627370496))⟩,
   ⟨(some 2), none, .move (.t 9)⟩,
   ⟨(some 3), none, .move (.t 12)⟩,
   ⟨(some 4), none, .move (.t 14)⟩] (some [2, 3, 4]))
 .ret))), [.tmp 2, .tmp 3, .tmp 4]⟩

/-- math.IsNaN -/
def x41 : XDecl := .code ⟨1, 
 (.seq (.ops [⟨(some 2), none, .move (.c (.bool false))⟩] (some [0]))
 (.seq (.ops [⟨(some 3), none, .move (.t 0)⟩,
   ⟨(some 4), none, .move (.t 0)⟩,
   ⟨(some 5), none, .bin .neq 50 (.t 3) (.t 4)⟩,
   ⟨(some 2), none, .move (.t 5)⟩] (some [2]))
 .ret)), [.tmp 2]⟩

/-- cloisonne/num.Place -/
def x42 : XDecl := .code ⟨1, 
 (.seq (.ops [⟨(some 2), none, .move (.c (.int .u64 0))⟩] (some [0]))
 (.seq (.ops [⟨(some 4), none, .move (.t 0)⟩,
   ⟨(some 5), none, .call (.c (.func (.func 37) #[] #[])) [(.t 4)]⟩,
   ⟨(some 3), none, .move (.t 5)⟩] (some [3]))
 (.seq (.block 0
  (.seq (.ops [⟨(some 7), none, .move (.t 3)⟩,
    ⟨(some 8), none, .bin .eql 29 (.t 7) (.c (.int .u64 9221120237041090561))⟩,
    ⟨(some 6), none, .move (.t 8)⟩] (some [3, 6]))
  (.cond (.t 6)
   (.seq (.ops [⟨(some 2), none, .move (.c (.int .u64 18437736874454810626))⟩] (some [2]))
   .ret)
   (.seq (.ops [⟨(some 10), none, .move (.t 3)⟩,
     ⟨(some 11), none, .bin .and 29 (.t 10) (.c (.int .u64 9223372036854775808))⟩,
     ⟨(some 12), none, .bin .neq 29 (.t 11) (.c (.int .u64 0))⟩,
     ⟨(some 9), none, .move (.t 12)⟩] (some [3, 9]))
   (.cond (.t 9)
    (.seq (.ops [⟨(some 13), none, .move (.t 3)⟩,
      ⟨(some 14), none, .bin .andNot 29 (.t 13) (.c (.int .u64 9223372036854775808))⟩,
      ⟨(some 15), none, .bin .sub 29 (.c (.int .u64 9218868437227405312)) (.t 14)⟩,
      ⟨(some 2), none, .move (.t 15)⟩] (some [2]))
    .ret)
    .skip)))))
 (.seq (.ops [⟨(some 16), none, .move (.t 3)⟩,
   ⟨(some 17), none, .bin .add 29 (.c (.int .u64 9218868437227405313)) (.t 16)⟩,
   ⟨(some 2), none, .move (.t 17)⟩] (some [2]))
 .ret)))), [.tmp 2]⟩

-- 43 (runtime.boundsError).Error: no body
def x43 : XDecl := .ext 43

-- 44 (runtime.boundsError).RuntimeError: no body
def x44 : XDecl := .ext 44

-- 45 (runtime.errorString).Error: no body
def x45 : XDecl := .ext 45

-- 46 (runtime.errorString).RuntimeError: no body
def x46 : XDecl := .ext 46

-- 47 (runtime.plainError).Error: no body
def x47 : XDecl := .ext 47

-- 48 (runtime.plainError).RuntimeError: no body
def x48 : XDecl := .ext 48

-- 49 (runtime.errorAddressString).Error: no body
def x49 : XDecl := .ext 49

-- 50 (runtime.errorAddressString).RuntimeError: no body
def x50 : XDecl := .ext 50

-- 51 (*runtime.TypeAssertionError).Error: no body
def x51 : XDecl := .ext 51

-- 52 (*runtime.TypeAssertionError).RuntimeError: no body
def x52 : XDecl := .ext 52

-- 53 (*runtime.PanicNilError).Error: no body
def x53 : XDecl := .ext 53

-- 54 (*runtime.PanicNilError).RuntimeError: no body
def x54 : XDecl := .ext 54

-- 55 (*internal/abi.Type).Align: no body
def x55 : XDecl := .ext 55

-- 56 (internal/runtime/maps.unhashableTypeError).Error: no body
def x56 : XDecl := .ext 56

-- 57 (internal/runtime/maps.unhashableTypeError).RuntimeError: no body
def x57 : XDecl := .ext 57

-- 58 (internal/abi.Kind).String: no body
def x58 : XDecl := .ext 58

def tab : FuncId → Option XDecl
  | 0 => some x0
  | 1 => some x1
  | 2 => some x2
  | 3 => some x3
  | 4 => some x4
  | 5 => some x5
  | 6 => some x6
  | 7 => some x7
  | 8 => some x8
  | 9 => some x9
  | 10 => some x10
  | 11 => some x11
  | 12 => some x12
  | 13 => some x13
  | 14 => some x14
  | 15 => some x15
  | 16 => some x16
  | 17 => some x17
  | 18 => some x18
  | 19 => some x19
  | 20 => some x20
  | 21 => some x21
  | 22 => some x22
  | 23 => some x23
  | 24 => some x24
  | 25 => some x25
  | 26 => some x26
  | 27 => some x27
  | 28 => some x28
  | 29 => some x29
  | 30 => some x30
  | 31 => some x31
  | 32 => some x32
  | 33 => some x33
  | 34 => some x34
  | 35 => some x35
  | 36 => some x36
  | 37 => some x37
  | 38 => some x38
  | 39 => some x39
  | 40 => some x40
  | 41 => some x41
  | 42 => some x42
  | 43 => some x43
  | 44 => some x44
  | 45 => some x45
  | 46 => some x46
  | 47 => some x47
  | 48 => some x48
  | 49 => some x49
  | 50 => some x50
  | 51 => some x51
  | 52 => some x52
  | 53 => some x53
  | 54 => some x54
  | 55 => some x55
  | 56 => some x56
  | 57 => some x57
  | 58 => some x58
  | _ => none

theorem is0 : FnIs Try.prog 0 x0 := rfl
theorem is1 : FnIs Try.prog 1 x1 := rfl
theorem is2 : FnIs Try.prog 2 x2 := ⟨Try.f2, _, Try.func2, by kernel_rfl, rfl, by kernel_rfl, by decide, by kernel_rfl⟩
theorem is3 : FnIs Try.prog 3 x3 := ⟨Try.f3, _, Try.func3, by kernel_rfl, rfl, by kernel_rfl, by decide, by kernel_rfl⟩
theorem is4 : FnIs Try.prog 4 x4 := ⟨Try.f4, _, Try.func4, by kernel_rfl, rfl, by kernel_rfl, by decide, by kernel_rfl⟩
theorem is5 : FnIs Try.prog 5 x5 := ⟨Try.f5, _, Try.func5, by kernel_rfl, rfl, by kernel_rfl, by decide, by kernel_rfl⟩
theorem is6 : FnIs Try.prog 6 x6 := ⟨Try.f6, _, Try.func6, by kernel_rfl, rfl, by kernel_rfl, by decide, by kernel_rfl⟩
theorem is7 : FnIs Try.prog 7 x7 := ⟨Try.f7, _, Try.func7, by kernel_rfl, rfl, by kernel_rfl, by decide, by kernel_rfl⟩
theorem is8 : FnIs Try.prog 8 x8 := ⟨Try.f8, _, Try.func8, by kernel_rfl, rfl, by kernel_rfl, by decide, by kernel_rfl⟩
theorem is9 : FnIs Try.prog 9 x9 := ⟨Try.f9, _, Try.func9, by kernel_rfl, rfl, by kernel_rfl, by decide, by kernel_rfl⟩
theorem is10 : FnIs Try.prog 10 x10 := ⟨Try.f10, _, Try.func10, by kernel_rfl, rfl, by kernel_rfl, by decide, by kernel_rfl⟩
theorem is11 : FnIs Try.prog 11 x11 := ⟨Try.f11, _, Try.func11, by kernel_rfl, rfl, by kernel_rfl, by decide, by kernel_rfl⟩
theorem is12 : FnIs Try.prog 12 x12 := ⟨Try.f12, _, Try.func12, by kernel_rfl, rfl, by kernel_rfl, by decide, by kernel_rfl⟩
theorem is13 : FnIs Try.prog 13 x13 := ⟨Try.f13, _, Try.func13, by kernel_rfl, rfl, by kernel_rfl, by decide, by kernel_rfl⟩
theorem is14 : FnIs Try.prog 14 x14 := ⟨Try.f14, _, Try.func14, by kernel_rfl, rfl, by kernel_rfl, by decide, by kernel_rfl⟩
theorem is15 : FnIs Try.prog 15 x15 := ⟨Try.f15, _, Try.func15, by kernel_rfl, rfl, by kernel_rfl, by decide, by kernel_rfl⟩
theorem is16 : FnIs Try.prog 16 x16 := ⟨Try.f16, _, Try.func16, by kernel_rfl, rfl, by kernel_rfl, by decide, by kernel_rfl⟩
theorem is17 : FnIs Try.prog 17 x17 := ⟨Try.f17, _, Try.func17, by kernel_rfl, rfl, by kernel_rfl, by decide, by kernel_rfl⟩
theorem is18 : FnIs Try.prog 18 x18 := ⟨Try.f18, _, Try.func18, by kernel_rfl, rfl, by kernel_rfl, by decide, by kernel_rfl⟩
theorem is19 : FnIs Try.prog 19 x19 := ⟨Try.f19, _, Try.func19, by kernel_rfl, rfl, by kernel_rfl, by decide, by kernel_rfl⟩
theorem is20 : FnIs Try.prog 20 x20 := ⟨Try.f20, _, Try.func20, by kernel_rfl, rfl, by kernel_rfl, by decide, by kernel_rfl⟩
theorem is21 : FnIs Try.prog 21 x21 := ⟨Try.f21, _, Try.func21, by kernel_rfl, rfl, by kernel_rfl, by decide, by kernel_rfl⟩
theorem is22 : FnIs Try.prog 22 x22 := ⟨Try.f22, _, Try.func22, by kernel_rfl, rfl, by kernel_rfl, by decide, by kernel_rfl⟩
theorem is23 : FnIs Try.prog 23 x23 := ⟨Try.f23, _, Try.func23, by kernel_rfl, rfl, by kernel_rfl, by decide, by kernel_rfl⟩
theorem is24 : FnIs Try.prog 24 x24 := ⟨Try.f24, _, Try.func24, by kernel_rfl, rfl, by kernel_rfl, by decide, by kernel_rfl⟩
theorem is25 : FnIs Try.prog 25 x25 := ⟨Try.f25, _, Try.func25, by kernel_rfl, rfl, by kernel_rfl, by decide, by kernel_rfl⟩
theorem is26 : FnIs Try.prog 26 x26 := ⟨Try.f26, _, Try.func26, by kernel_rfl, rfl, by kernel_rfl, by decide, by kernel_rfl⟩
theorem is27 : FnIs Try.prog 27 x27 := ⟨Try.f27, _, Try.func27, by kernel_rfl, rfl, by kernel_rfl, by decide, by kernel_rfl⟩
theorem is28 : FnIs Try.prog 28 x28 := rfl
theorem is29 : FnIs Try.prog 29 x29 := ⟨Try.f29, _, Try.func29, by kernel_rfl, rfl, by kernel_rfl, by decide, by kernel_rfl⟩
theorem is30 : FnIs Try.prog 30 x30 := ⟨Try.f30, _, Try.func30, by kernel_rfl, rfl, by kernel_rfl, by decide, by kernel_rfl⟩
theorem is31 : FnIs Try.prog 31 x31 := ⟨Try.f31, _, Try.func31, by kernel_rfl, rfl, by kernel_rfl, by decide, by kernel_rfl⟩
theorem is32 : FnIs Try.prog 32 x32 := ⟨Try.f32, _, Try.func32, by kernel_rfl, rfl, by kernel_rfl, by decide, by kernel_rfl⟩
theorem is33 : FnIs Try.prog 33 x33 := ⟨Try.f33, _, Try.func33, by kernel_rfl, rfl, by kernel_rfl, by decide, by kernel_rfl⟩
theorem is34 : FnIs Try.prog 34 x34 := ⟨Try.f34, _, Try.func34, by kernel_rfl, rfl, by kernel_rfl, by decide, by kernel_rfl⟩
theorem is35 : FnIs Try.prog 35 x35 := ⟨Try.f35, _, Try.func35, by kernel_rfl, rfl, by kernel_rfl, by decide, by kernel_rfl⟩
theorem is36 : FnIs Try.prog 36 x36 := rfl
theorem is37 : FnIs Try.prog 37 x37 := ⟨Try.f37, _, Try.func37, by kernel_rfl, rfl, by kernel_rfl, by decide, by kernel_rfl⟩
theorem is38 : FnIs Try.prog 38 x38 := ⟨Try.f38, _, Try.func38, by kernel_rfl, rfl, by kernel_rfl, by decide, by kernel_rfl⟩
theorem is39 : FnIs Try.prog 39 x39 := ⟨Try.f39, _, Try.func39, by kernel_rfl, rfl, by kernel_rfl, by decide, by kernel_rfl⟩
theorem is40 : FnIs Try.prog 40 x40 := ⟨Try.f40, _, Try.func40, by kernel_rfl, rfl, by kernel_rfl, by decide, by kernel_rfl⟩
theorem is41 : FnIs Try.prog 41 x41 := ⟨Try.f41, _, Try.func41, by kernel_rfl, rfl, by kernel_rfl, by decide, by kernel_rfl⟩
theorem is42 : FnIs Try.prog 42 x42 := ⟨Try.f42, _, Try.func42, by kernel_rfl, rfl, by kernel_rfl, by decide, by kernel_rfl⟩
theorem is43 : FnIs Try.prog 43 x43 := rfl
theorem is44 : FnIs Try.prog 44 x44 := rfl
theorem is45 : FnIs Try.prog 45 x45 := rfl
theorem is46 : FnIs Try.prog 46 x46 := rfl
theorem is47 : FnIs Try.prog 47 x47 := rfl
theorem is48 : FnIs Try.prog 48 x48 := rfl
theorem is49 : FnIs Try.prog 49 x49 := rfl
theorem is50 : FnIs Try.prog 50 x50 := rfl
theorem is51 : FnIs Try.prog 51 x51 := rfl
theorem is52 : FnIs Try.prog 52 x52 := rfl
theorem is53 : FnIs Try.prog 53 x53 := rfl
theorem is54 : FnIs Try.prog 54 x54 := rfl
theorem is55 : FnIs Try.prog 55 x55 := rfl
theorem is56 : FnIs Try.prog 56 x56 := rfl
theorem is57 : FnIs Try.prog 57 x57 := rfl
theorem is58 : FnIs Try.prog 58 x58 := rfl

theorem tab_is : ∀ f d, tab f = some d → FnIs Try.prog f d := by
  intro f d h
  unfold tab at h
  split at h
  · cases h; exact is0
  · cases h; exact is1
  · cases h; exact is2
  · cases h; exact is3
  · cases h; exact is4
  · cases h; exact is5
  · cases h; exact is6
  · cases h; exact is7
  · cases h; exact is8
  · cases h; exact is9
  · cases h; exact is10
  · cases h; exact is11
  · cases h; exact is12
  · cases h; exact is13
  · cases h; exact is14
  · cases h; exact is15
  · cases h; exact is16
  · cases h; exact is17
  · cases h; exact is18
  · cases h; exact is19
  · cases h; exact is20
  · cases h; exact is21
  · cases h; exact is22
  · cases h; exact is23
  · cases h; exact is24
  · cases h; exact is25
  · cases h; exact is26
  · cases h; exact is27
  · cases h; exact is28
  · cases h; exact is29
  · cases h; exact is30
  · cases h; exact is31
  · cases h; exact is32
  · cases h; exact is33
  · cases h; exact is34
  · cases h; exact is35
  · cases h; exact is36
  · cases h; exact is37
  · cases h; exact is38
  · cases h; exact is39
  · cases h; exact is40
  · cases h; exact is41
  · cases h; exact is42
  · cases h; exact is43
  · cases h; exact is44
  · cases h; exact is45
  · cases h; exact is46
  · cases h; exact is47
  · cases h; exact is48
  · cases h; exact is49
  · cases h; exact is50
  · cases h; exact is51
  · cases h; exact is52
  · cases h; exact is53
  · cases h; exact is54
  · cases h; exact is55
  · cases h; exact is56
  · cases h; exact is57
  · cases h; exact is58
  · cases h

theorem mixed : Try.prog.follows .mixedOrders = true := by kernel_rfl
theorem laid : laidOutB Try.prog = true := by kernel_rfl
theorem own : ownKnob Try.prog.godebug = none := by kernel_rfl

end Go.Proofs.Ytbcoijgoipnelab.X
