/-
  Own work, printed by a program of ours (mkprog.py): the functions of this seat as code of the abstract run, and that each is the model's.
-/
import Derived.Test.YtfjeccaffenngaaXLaw
import Derived.Test.YtfjeccaffenngaaChecked
set_option maxRecDepth 100000
namespace Go.Proofs.Ytfjeccaffenngaa.X
open Go

/-- cloisonne/cloisonnelaw28.FlowMore -/
def x3 : XDecl := .code ⟨7, 
 (.seq (.ops [⟨(some 14), none, .move (.c (.bool false))⟩] (some [0, 1, 2, 3, 4, 5, 6]))
 (.seq (.seq (.ops [⟨(some 22), none, .call (.c (.func (.func 8) #[] #[])) []⟩,
   ⟨(some 23), none, .un .not (.t 22)⟩] (some [0, 1, 2, 3, 4, 5, 6, 23]))
 (.cond (.t 23)
  (.seq (.ops [⟨(some 14), none, .move (.c (.bool false))⟩] (some [14]))
  .ret)
  .skip))
 (.seq (.ops [⟨(some 25), none, .move (.t 0)⟩,
   ⟨(some 26), none, .move (.t 1)⟩,
   ⟨(some 27), none, .call (.c (.func (.func 9) #[] #[])) [(.t 25), (.t 26)]⟩,
   ⟨(some 24), none, .move (.t 27)⟩,
   ⟨(some 28), none, .extract (.t 24) 0⟩,
   ⟨(some 29), none, .extract (.t 24) 1⟩,
   ⟨(some 30), none, .extract (.t 24) 2⟩,
   ⟨(some 15), none, .move (.t 28)⟩,
   ⟨(some 16), none, .move (.t 29)⟩,
   ⟨(some 17), none, .move (.t 30)⟩] (some [2, 3, 4, 5, 6, 15, 17]))
 (.seq (.seq (.ops [⟨(some 31), none, .move (.t 17)⟩,
   ⟨(some 32), none, .un .not (.t 31)⟩,
   ⟨(some 33), none, .move (.t 32)⟩,
   ⟨(some 34), (some (33, false)), .move (.t 4)⟩,
   ⟨(some 35), (some (33, false)), .len (.t 34)⟩,
   ⟨(some 36), (some (33, false)), .bin .gtr 3 (.t 35) (.c (.int .i64 60))⟩,
   ⟨(some 37), none, .pick (.t 33) (.c (.bool true)) (.t 36)⟩,
   ⟨(some 38), none, .move (.t 37)⟩,
   ⟨(some 39), (some (38, false)), .move (.t 5)⟩,
   ⟨(some 40), (some (38, false)), .len (.t 39)⟩,
   ⟨(some 41), (some (38, false)), .bin .gtr 3 (.t 40) (.c (.int .i64 60))⟩,
   ⟨(some 42), none, .pick (.t 38) (.c (.bool true)) (.t 41)⟩,
   ⟨(some 43), none, .move (.t 42)⟩,
   ⟨(some 44), (some (43, false)), .move (.t 6)⟩,
   ⟨(some 45), (some (43, false)), .len (.t 44)⟩,
   ⟨(some 46), (some (43, false)), .bin .gtr 3 (.t 45) (.c (.int .i64 60))⟩,
   ⟨(some 47), none, .pick (.t 43) (.c (.bool true)) (.t 46)⟩] (some [2, 3, 4, 5, 6, 15, 47]))
 (.cond (.t 47)
  (.seq (.ops [⟨(some 14), none, .move (.c (.bool true))⟩] (some [14]))
  .ret)
  .skip))
 (.seq (.ops [⟨(some 48), none, .move (.t 15)⟩,
   ⟨(some 49), none, .move (.t 3)⟩,
   ⟨(some 50), none, .move (.t 4)⟩,
   ⟨(some 51), none, .move (.t 5)⟩,
   ⟨(some 52), none, .call (.c (.func (.func 10) #[] #[])) [(.t 48), (.t 49), (.t 50), (.t 51)]⟩,
   ⟨(some 53), none, .move (.t 15)⟩,
   ⟨(some 54), none, .move (.t 3)⟩,
   ⟨(some 55), none, .move (.t 5)⟩,
   ⟨(some 56), none, .move (.t 6)⟩,
   ⟨(some 57), none, .call (.c (.func (.func 10) #[] #[])) [(.t 53), (.t 54), (.t 55), (.t 56)]⟩,
   ⟨(some 58), none, .move (.t 15)⟩,
   ⟨(some 59), none, .move (.t 3)⟩,
   ⟨(some 60), none, .move (.t 4)⟩,
   ⟨(some 61), none, .move (.t 6)⟩,
   ⟨(some 62), none, .call (.c (.func (.func 10) #[] #[])) [(.t 58), (.t 59), (.t 60), (.t 61)]⟩,
   ⟨(some 18), none, .move (.t 52)⟩,
   ⟨(some 19), none, .move (.t 57)⟩,
   ⟨(some 20), none, .move (.t 62)⟩] (some [2, 3, 4, 5, 6, 15, 18, 19, 20]))
 (.seq (.seq (.ops [⟨(some 63), none, .move (.t 18)⟩,
   ⟨(some 64), none, .move (.t 63)⟩,
   ⟨(some 65), (some (64, true)), .move (.t 19)⟩,
   ⟨(some 66), none, .pick (.t 64) (.t 65) (.c (.bool false))⟩,
   ⟨(some 67), none, .move (.t 66)⟩,
   ⟨(some 68), (some (67, true)), .move (.t 20)⟩,
   ⟨(some 69), (some (67, true)), .un .not (.t 68)⟩,
   ⟨(some 70), none, .pick (.t 67) (.t 69) (.c (.bool false))⟩] (some [2, 3, 4, 5, 6, 15, 18, 20, 70]))
 (.cond (.t 70)
  (.seq (.ops [⟨(some 14), none, .move (.c (.bool false))⟩] (some [14]))
  .ret)
  .skip))
 (.seq (.seq (.ops [⟨(some 21), none, .move (.c (.int .i64 0))⟩] (some [2, 3, 4, 5, 6, 15, 18, 20, 21]))
 (.block 0
  (.loop
   (.seq (.seq (.ops [⟨(some 71), none, .move (.t 21)⟩,
     ⟨(some 72), none, .move (.t 2)⟩,
     ⟨(some 73), none, .len (.t 72)⟩,
     ⟨(some 74), none, .bin .lss 3 (.t 71) (.t 73)⟩,
     ⟨(some 75), none, .move (.t 74)⟩,
     ⟨(some 76), (some (75, true)), .move (.t 21)⟩,
     ⟨(some 77), (some (75, true)), .bin .lss 3 (.t 76) (.c (.int .i64 60))⟩,
     ⟨(some 78), none, .pick (.t 75) (.t 77) (.c (.bool false))⟩] (some [2, 3, 4, 5, 6, 15, 18, 20, 21, 78]))
   (.cond (.t 78)
    .skip
    (.exit 0)))
   (.seq (.block 1
    (.ops [⟨(some 81), none, .move (.t 15)⟩,
      ⟨(some 82), none, .move (.t 2)⟩,
      ⟨(some 83), none, .move (.t 21)⟩,
      ⟨(some 84), none, .indexAddr 5 (.t 82) (.t 83)⟩,
      ⟨(some 85), none, .load true 5 (.t 84)⟩,
      ⟨(some 86), none, .call (.c (.func (.func 11) #[] #[])) [(.t 81), (.t 85)]⟩] (some [2, 3, 4, 5, 6, 15, 18, 20, 21])))
   (.ops [⟨(some 79), none, .move (.t 21)⟩,
     ⟨(some 80), none, .bin .add 3 (.t 79) (.c (.int .i64 1))⟩,
     ⟨(some 21), none, .move (.t 80)⟩] (some [2, 3, 4, 5, 6, 15, 18, 20, 21])))))))
 (.seq (.ops [⟨(some 87), none, .move (.t 18)⟩,
   ⟨(some 88), none, .un .not (.t 87)⟩,
   ⟨(some 89), none, .move (.t 88)⟩,
   ⟨(some 90), (some (89, false)), .move (.t 15)⟩,
   ⟨(some 91), (some (89, false)), .move (.t 3)⟩,
   ⟨(some 92), (some (89, false)), .move (.t 4)⟩,
   ⟨(some 93), (some (89, false)), .move (.t 5)⟩,
   ⟨(some 94), (some (89, false)), .call (.c (.func (.func 10) #[] #[])) [(.t 90), (.t 91), (.t 92), (.t 93)]⟩,
   ⟨(some 95), none, .pick (.t 89) (.c (.bool true)) (.t 94)⟩,
   ⟨(some 96), none, .move (.t 95)⟩,
   ⟨(some 97), (some (96, true)), .move (.t 20)⟩,
   ⟨(some 98), (some (96, true)), .un .not (.t 97)⟩,
   ⟨(some 99), (some (96, true)), .move (.t 98)⟩,
   ⟨(some 100), (some (99, false)), .move (.t 15)⟩,
   ⟨(some 101), (some (99, false)), .move (.t 3)⟩,
   ⟨(some 102), (some (99, false)), .move (.t 4)⟩,
   ⟨(some 103), (some (99, false)), .move (.t 6)⟩,
   ⟨(some 104), (some (99, false)), .call (.c (.func (.func 10) #[] #[])) [(.t 100), (.t 101), (.t 102), (.t 103)]⟩,
   ⟨(some 105), (some (96, true)), .pick (.t 99) (.c (.bool true)) (.t 104)⟩,
   ⟨(some 106), none, .pick (.t 96) (.t 105) (.c (.bool false))⟩,
   ⟨(some 14), none, .move (.t 106)⟩] (some [14]))
 .ret)))))))), [.tmp 14]⟩

theorem is3 : FnIs Try.prog 3 x3 := ⟨Try.f3, _, Try.func3, by kernel_rfl, rfl, by kernel_rfl, by decide, by kernel_rfl⟩

/-- cloisonne/cloisonnelaw28.FlowComes -/
def x4 : XDecl := .code ⟨5, 
 (.seq (.ops [⟨(some 10), none, .move (.c (.bool false))⟩] (some [0, 1, 2, 3, 4]))
 (.seq (.seq (.ops [⟨(some 19), none, .call (.c (.func (.func 8) #[] #[])) []⟩,
   ⟨(some 20), none, .un .not (.t 19)⟩] (some [0, 1, 2, 3, 4, 20]))
 (.cond (.t 20)
  (.seq (.ops [⟨(some 10), none, .move (.c (.bool false))⟩] (some [10]))
  .ret)
  .skip))
 (.seq (.ops [⟨(some 22), none, .move (.t 0)⟩,
   ⟨(some 23), none, .move (.t 1)⟩,
   ⟨(some 24), none, .call (.c (.func (.func 9) #[] #[])) [(.t 22), (.t 23)]⟩,
   ⟨(some 21), none, .move (.t 24)⟩,
   ⟨(some 25), none, .extract (.t 21) 0⟩,
   ⟨(some 26), none, .extract (.t 21) 1⟩,
   ⟨(some 27), none, .extract (.t 21) 2⟩,
   ⟨(some 11), none, .move (.t 25)⟩,
   ⟨(some 12), none, .move (.t 26)⟩,
   ⟨(some 13), none, .move (.t 27)⟩] (some [0, 2, 3, 4, 11, 12, 13]))
 (.seq (.seq (.ops [⟨(some 28), none, .move (.t 13)⟩,
   ⟨(some 29), none, .un .not (.t 28)⟩,
   ⟨(some 30), none, .move (.t 29)⟩,
   ⟨(some 31), (some (30, false)), .move (.t 3)⟩,
   ⟨(some 32), (some (30, false)), .call (.c (.func (.func 12) #[] #[])) [(.t 31)]⟩,
   ⟨(some 33), (some (30, false)), .un .not (.t 32)⟩,
   ⟨(some 34), none, .pick (.t 30) (.c (.bool true)) (.t 33)⟩,
   ⟨(some 35), none, .move (.t 34)⟩,
   ⟨(some 36), (some (35, false)), .move (.t 4)⟩,
   ⟨(some 37), (some (35, false)), .call (.c (.func (.func 12) #[] #[])) [(.t 36)]⟩,
   ⟨(some 38), (some (35, false)), .un .not (.t 37)⟩,
   ⟨(some 39), none, .pick (.t 35) (.c (.bool true)) (.t 38)⟩] (some [0, 2, 3, 4, 11, 12, 39]))
 (.cond (.t 39)
  (.seq (.ops [⟨(some 10), none, .move (.c (.bool true))⟩] (some [10]))
  .ret)
  .skip))
 (.seq (.ops [⟨(some 41), none, .move (.t 11)⟩,
   ⟨(some 42), none, .move (.t 2)⟩,
   ⟨(some 43), none, .move (.t 3)⟩,
   ⟨(some 44), none, .move (.t 4)⟩,
   ⟨(some 45), none, .call (.c (.func (.func 13) #[] #[])) [(.t 41), (.t 42), (.t 43), (.t 44)]⟩,
   ⟨(some 40), none, .move (.t 45)⟩,
   ⟨(some 46), none, .extract (.t 40) 0⟩,
   ⟨(some 47), none, .extract (.t 40) 1⟩,
   ⟨(some 14), none, .move (.t 46)⟩,
   ⟨(some 15), none, .move (.t 47)⟩] (some [0, 2, 3, 4, 11, 12, 14, 15]))
 (.seq (.seq (.ops [⟨(some 48), none, .move (.t 2)⟩,
   ⟨(some 49), none, .bin .lss 3 (.t 48) (.c (.int .i64 0))⟩,
   ⟨(some 50), none, .move (.t 49)⟩,
   ⟨(some 51), (some (50, false)), .move (.t 2)⟩,
   ⟨(some 52), (some (50, false)), .move (.t 0)⟩,
   ⟨(some 53), (some (50, false)), .bin .geq 3 (.t 51) (.t 52)⟩,
   ⟨(some 54), none, .pick (.t 50) (.c (.bool true)) (.t 53)⟩] (some [2, 3, 4, 11, 12, 14, 15, 54]))
 (.cond (.t 54)
  (.seq (.ops [⟨(some 55), none, .move (.t 11)⟩,
    ⟨(some 56), none, .move (.t 2)⟩,
    ⟨(some 57), none, .move (.t 3)⟩,
    ⟨(some 58), none, .move (.t 4)⟩,
    ⟨(some 59), none, .call (.c (.func (.func 10) #[] #[])) [(.t 55), (.t 56), (.t 57), (.t 58)]⟩,
    ⟨(some 60), none, .un .not (.t 59)⟩,
    ⟨(some 61), none, .move (.t 60)⟩,
    ⟨(some 62), (some (61, true)), .move (.t 11)⟩,
    ⟨(some 63), (some (61, true)), .move (.t 2)⟩,
    ⟨(some 64), (some (61, true)), .move (.t 3)⟩,
    ⟨(some 65), (some (61, true)), .move (.t 4)⟩,
    ⟨(some 66), (some (61, true)), .call (.c (.func (.func 14) #[] #[])) [(.t 62), (.t 63), (.t 64), (.t 65)]⟩,
    ⟨(some 67), (some (61, true)), .un .not (.t 66)⟩,
    ⟨(some 68), none, .pick (.t 61) (.t 67) (.c (.bool false))⟩,
    ⟨(some 69), none, .move (.t 68)⟩,
    ⟨(some 70), (some (69, true)), .move (.t 14)⟩,
    ⟨(some 71), (some (69, true)), .len (.t 70)⟩,
    ⟨(some 72), (some (69, true)), .bin .eql 3 (.t 71) (.c (.int .i64 0))⟩,
    ⟨(some 73), none, .pick (.t 69) (.t 72) (.c (.bool false))⟩,
    ⟨(some 74), none, .move (.t 73)⟩,
    ⟨(some 75), (some (74, true)), .move (.t 15)⟩,
    ⟨(some 76), (some (74, true)), .bin .eql 31 (.t 75) (.c (.int .i64 1))⟩,
    ⟨(some 77), none, .pick (.t 74) (.t 76) (.c (.bool false))⟩,
    ⟨(some 10), none, .move (.t 77)⟩] (some [10]))
  .ret)
  .skip))
 (.seq (.ops [⟨(some 79), none, .move (.t 12)⟩,
   ⟨(some 80), none, .move (.t 2)⟩,
   ⟨(some 81), none, .move (.t 3)⟩,
   ⟨(some 82), none, .call (.c (.func (.func 15) #[] #[])) [(.t 79), (.t 80), (.t 81)]⟩,
   ⟨(some 78), none, .move (.t 82)⟩,
   ⟨(some 83), none, .extract (.t 78) 0⟩,
   ⟨(some 84), none, .extract (.t 78) 1⟩,
   ⟨(some 16), none, .move (.t 83)⟩,
   ⟨(some 17), none, .move (.t 84)⟩] (some [2, 3, 4, 11, 12, 14, 15, 16, 17]))
 (.seq (.ops [⟨(some 85), none, .move (.t 16)⟩,
   ⟨(some 86), none, .move (.t 4)⟩,
   ⟨(some 87), none, .call (.c (.func (.func 16) #[] #[])) [(.t 85), (.t 86)]⟩,
   ⟨(some 18), none, .move (.t 87)⟩] (some [2, 3, 4, 11, 12, 14, 15, 17, 18]))
 (.seq (.seq (.ops [⟨(some 88), none, .move (.t 11)⟩,
   ⟨(some 89), none, .move (.t 2)⟩,
   ⟨(some 90), none, .move (.t 3)⟩,
   ⟨(some 91), none, .move (.t 4)⟩,
   ⟨(some 92), none, .call (.c (.func (.func 10) #[] #[])) [(.t 88), (.t 89), (.t 90), (.t 91)]⟩,
   ⟨(some 93), none, .move (.t 18)⟩,
   ⟨(some 94), none, .bin .geq 3 (.t 93) (.c (.int .i64 0))⟩,
   ⟨(some 95), none, .bin .neq 4 (.t 92) (.t 94)⟩,
   ⟨(some 96), none, .move (.t 95)⟩,
   ⟨(some 97), (some (96, false)), .move (.t 11)⟩,
   ⟨(some 98), (some (96, false)), .move (.t 2)⟩,
   ⟨(some 99), (some (96, false)), .move (.t 3)⟩,
   ⟨(some 100), (some (96, false)), .move (.t 4)⟩,
   ⟨(some 101), (some (96, false)), .call (.c (.func (.func 14) #[] #[])) [(.t 97), (.t 98), (.t 99), (.t 100)]⟩,
   ⟨(some 102), (some (96, false)), .move (.t 12)⟩,
   ⟨(some 103), (some (96, false)), .move (.t 2)⟩,
   ⟨(some 104), (some (96, false)), .move (.t 3)⟩,
   ⟨(some 105), (some (96, false)), .move (.t 4)⟩,
   ⟨(some 106), (some (96, false)), .call (.c (.func (.func 17) #[] #[])) [(.t 102), (.t 103), (.t 104), (.t 105)]⟩,
   ⟨(some 107), (some (96, false)), .bin .neq 4 (.t 101) (.t 106)⟩,
   ⟨(some 108), none, .pick (.t 96) (.c (.bool true)) (.t 107)⟩] (some [14, 15, 17, 18, 108]))
 (.cond (.t 108)
  (.seq (.ops [⟨(some 10), none, .move (.c (.bool false))⟩] (some [10]))
  .ret)
  .skip))
 (.seq (.seq (.ops [⟨(some 109), none, .move (.t 18)⟩,
   ⟨(some 110), none, .bin .lss 3 (.t 109) (.c (.int .i64 0))⟩] (some [14, 15, 17, 18, 110]))
 (.cond (.t 110)
  (.seq (.ops [⟨(some 111), none, .move (.t 14)⟩,
    ⟨(some 112), none, .len (.t 111)⟩,
    ⟨(some 113), none, .bin .eql 3 (.t 112) (.c (.int .i64 0))⟩,
    ⟨(some 114), none, .move (.t 113)⟩,
    ⟨(some 115), (some (114, true)), .move (.t 15)⟩,
    ⟨(some 116), (some (114, true)), .bin .eql 31 (.t 115) (.c (.int .i64 7))⟩,
    ⟨(some 117), none, .pick (.t 114) (.t 116) (.c (.bool false))⟩,
    ⟨(some 10), none, .move (.t 117)⟩] (some [10]))
  .ret)
  .skip))
 (.seq (.ops [⟨(some 118), none, .move (.t 15)⟩,
   ⟨(some 119), none, .bin .eql 31 (.t 118) (.c (.int .i64 0))⟩,
   ⟨(some 120), none, .move (.t 119)⟩,
   ⟨(some 121), (some (120, true)), .move (.t 14)⟩,
   ⟨(some 122), (some (120, true)), .len (.t 121)⟩,
   ⟨(some 123), (some (120, true)), .move (.t 17)⟩,
   ⟨(some 124), (some (120, true)), .move (.t 18)⟩,
   ⟨(some 125), (some (120, true)), .indexAddr 1 (.t 123) (.t 124)⟩,
   ⟨(some 126), (some (120, true)), .load false 1 (.t 125)⟩,
   ⟨(some 127), (some (120, true)), .bin .eql 3 (.t 122) (.t 126)⟩,
   ⟨(some 128), none, .pick (.t 120) (.t 127) (.c (.bool false))⟩,
   ⟨(some 10), none, .move (.t 128)⟩] (some [10]))
 .ret))))))))))), [.tmp 10]⟩

theorem is4 : FnIs Try.prog 4 x4 := ⟨Try.f4, _, Try.func4, by kernel_rfl, rfl, by kernel_rfl, by decide, by kernel_rfl⟩

/-- cloisonne/cloisonnelaw28.FlowNil -/
def x5 : XDecl := .code ⟨4, 
 (.seq (.ops [⟨(some 8), none, .move (.c (.bool false))⟩] (some [0, 1, 2, 3]))
 (.seq (.seq (.ops [⟨(some 15), none, .call (.c (.func (.func 8) #[] #[])) []⟩,
   ⟨(some 16), none, .un .not (.t 15)⟩] (some [0, 1, 2, 3, 16]))
 (.cond (.t 16)
  (.seq (.ops [⟨(some 8), none, .move (.c (.bool false))⟩] (some [8]))
  .ret)
  .skip))
 (.seq (.ops [⟨(some 18), none, .move (.t 0)⟩,
   ⟨(some 19), none, .move (.t 1)⟩,
   ⟨(some 20), none, .move (.t 2)⟩,
   ⟨(some 21), none, .call (.c (.func (.func 13) #[] #[])) [(.c (.pointer none)), (.t 18), (.t 19), (.t 20)]⟩,
   ⟨(some 17), none, .move (.t 21)⟩,
   ⟨(some 22), none, .extract (.t 17) 0⟩,
   ⟨(some 23), none, .extract (.t 17) 1⟩,
   ⟨(some 9), none, .move (.t 22)⟩,
   ⟨(some 10), none, .move (.t 23)⟩] (some [0, 1, 2, 3, 9, 10]))
 (.seq (.ops [⟨(some 25), none, .call (.c (.func (.func 18) #[] #[])) [(.c (.pointer none)), (.c (.slice none 0 0))]⟩,
   ⟨(some 24), none, .move (.t 25)⟩,
   ⟨(some 26), none, .extract (.t 24) 0⟩,
   ⟨(some 27), none, .extract (.t 24) 1⟩,
   ⟨(some 11), none, .move (.t 26)⟩,
   ⟨(some 12), none, .move (.t 27)⟩] (some [0, 1, 2, 3, 9, 10, 11, 12]))
 (.seq (.ops [⟨(some 29), none, .call (.c (.func (.func 19) #[] #[])) [(.c (.pointer none)), (.c (.slice none 0 0))]⟩,
   ⟨(some 28), none, .move (.t 29)⟩,
   ⟨(some 30), none, .extract (.t 28) 0⟩,
   ⟨(some 31), none, .extract (.t 28) 1⟩,
   ⟨(some 13), none, .move (.t 30)⟩,
   ⟨(some 14), none, .move (.t 31)⟩] (some [0, 1, 2, 3, 9, 10, 11, 12, 13, 14]))
 (.seq (.ops [⟨(some 32), none, .move (.t 0)⟩,
   ⟨(some 33), none, .move (.t 1)⟩,
   ⟨(some 34), none, .move (.t 2)⟩,
   ⟨(some 35), none, .call (.c (.func (.func 10) #[] #[])) [(.c (.pointer none)), (.t 32), (.t 33), (.t 34)]⟩,
   ⟨(some 36), none, .un .not (.t 35)⟩,
   ⟨(some 37), none, .move (.t 36)⟩,
   ⟨(some 38), (some (37, true)), .move (.t 0)⟩,
   ⟨(some 39), (some (37, true)), .move (.t 1)⟩,
   ⟨(some 40), (some (37, true)), .move (.t 2)⟩,
   ⟨(some 41), (some (37, true)), .call (.c (.func (.func 14) #[] #[])) [(.c (.pointer none)), (.t 38), (.t 39), (.t 40)]⟩,
   ⟨(some 42), (some (37, true)), .un .not (.t 41)⟩,
   ⟨(some 43), none, .pick (.t 37) (.t 42) (.c (.bool false))⟩,
   ⟨(some 44), none, .move (.t 43)⟩,
   ⟨(some 45), (some (44, true)), .move (.t 9)⟩,
   ⟨(some 46), (some (44, true)), .len (.t 45)⟩,
   ⟨(some 47), (some (44, true)), .bin .eql 3 (.t 46) (.c (.int .i64 0))⟩,
   ⟨(some 48), none, .pick (.t 44) (.t 47) (.c (.bool false))⟩,
   ⟨(some 49), none, .move (.t 48)⟩,
   ⟨(some 50), (some (49, true)), .move (.t 10)⟩,
   ⟨(some 51), (some (49, true)), .bin .eql 31 (.t 50) (.c (.int .i64 2))⟩,
   ⟨(some 52), none, .pick (.t 49) (.t 51) (.c (.bool false))⟩,
   ⟨(some 53), none, .move (.t 52)⟩,
   ⟨(some 54), (some (53, true)), .move (.t 11)⟩,
   ⟨(some 55), (some (53, true)), .len (.t 54)⟩,
   ⟨(some 56), (some (53, true)), .bin .eql 3 (.t 55) (.c (.int .i64 0))⟩,
   ⟨(some 57), none, .pick (.t 53) (.t 56) (.c (.bool false))⟩,
   ⟨(some 58), none, .move (.t 57)⟩,
   ⟨(some 59), (some (58, true)), .move (.t 12)⟩,
   ⟨(some 60), (some (58, true)), .bin .eql 31 (.t 59) (.c (.int .i64 2))⟩,
   ⟨(some 61), none, .pick (.t 58) (.t 60) (.c (.bool false))⟩,
   ⟨(some 62), none, .move (.t 61)⟩,
   ⟨(some 63), (some (62, true)), .move (.t 13)⟩,
   ⟨(some 64), (some (62, true)), .len (.t 63)⟩,
   ⟨(some 65), (some (62, true)), .bin .eql 3 (.t 64) (.c (.int .i64 0))⟩,
   ⟨(some 66), none, .pick (.t 62) (.t 65) (.c (.bool false))⟩,
   ⟨(some 67), none, .move (.t 66)⟩,
   ⟨(some 68), (some (67, true)), .move (.t 14)⟩,
   ⟨(some 69), (some (67, true)), .bin .eql 31 (.t 68) (.c (.int .i64 2))⟩,
   ⟨(some 70), none, .pick (.t 67) (.t 69) (.c (.bool false))⟩,
   ⟨(some 71), none, .move (.t 70)⟩,
   ⟨(some 72), (some (71, true)), .move (.t 3)⟩,
   ⟨(some 73), (some (71, true)), .call (.c (.func (.func 20) #[] #[])) [(.c (.pointer none)), (.t 72)]⟩,
   ⟨(some 74), (some (71, true)), .len (.t 73)⟩,
   ⟨(some 75), (some (71, true)), .bin .eql 3 (.t 74) (.c (.int .i64 0))⟩,
   ⟨(some 76), none, .pick (.t 71) (.t 75) (.c (.bool false))⟩,
   ⟨(some 8), none, .move (.t 76)⟩] (some [8]))
 .ret)))))), [.tmp 8]⟩

theorem is5 : FnIs Try.prog 5 x5 := ⟨Try.f5, _, Try.func5, by kernel_rfl, rfl, by kernel_rfl, by decide, by kernel_rfl⟩

/-- cloisonne/cloisonnelaw28.FlowTrusts -/
def x6 : XDecl := .code ⟨4, 
 (.seq (.ops [⟨(some 8), none, .move (.c (.bool false))⟩] (some [0, 1, 2, 3]))
 (.seq (.seq (.ops [⟨(some 17), none, .call (.c (.func (.func 8) #[] #[])) []⟩,
   ⟨(some 18), none, .un .not (.t 17)⟩] (some [0, 1, 2, 3, 18]))
 (.cond (.t 18)
  (.seq (.ops [⟨(some 8), none, .move (.c (.bool false))⟩] (some [8]))
  .ret)
  .skip))
 (.seq (.ops [⟨(some 20), none, .move (.t 0)⟩,
   ⟨(some 21), none, .move (.t 1)⟩,
   ⟨(some 22), none, .call (.c (.func (.func 9) #[] #[])) [(.t 20), (.t 21)]⟩,
   ⟨(some 19), none, .move (.t 22)⟩,
   ⟨(some 23), none, .extract (.t 19) 0⟩,
   ⟨(some 24), none, .extract (.t 19) 1⟩,
   ⟨(some 25), none, .extract (.t 19) 2⟩,
   ⟨(some 9), none, .move (.t 23)⟩,
   ⟨(some 10), none, .move (.t 24)⟩,
   ⟨(some 11), none, .move (.t 25)⟩] (some [0, 2, 3, 9, 10, 11]))
 (.seq (.seq (.ops [⟨(some 26), none, .move (.t 11)⟩,
   ⟨(some 27), none, .un .not (.t 26)⟩,
   ⟨(some 28), none, .move (.t 27)⟩,
   ⟨(some 29), (some (28, false)), .move (.t 2)⟩,
   ⟨(some 30), (some (28, false)), .len (.t 29)⟩,
   ⟨(some 31), (some (28, false)), .bin .gtr 3 (.t 30) (.c (.int .i64 8))⟩,
   ⟨(some 32), none, .pick (.t 28) (.c (.bool true)) (.t 31)⟩] (some [0, 2, 3, 9, 10, 32]))
 (.cond (.t 32)
  (.seq (.ops [⟨(some 8), none, .move (.c (.bool true))⟩] (some [8]))
  .ret)
  .skip))
 (.seq (.ops [⟨(some 34), none, .move (.t 9)⟩,
   ⟨(some 35), none, .move (.t 2)⟩,
   ⟨(some 36), none, .call (.c (.func (.func 18) #[] #[])) [(.t 34), (.t 35)]⟩,
   ⟨(some 33), none, .move (.t 36)⟩,
   ⟨(some 37), none, .extract (.t 33) 0⟩,
   ⟨(some 38), none, .extract (.t 33) 1⟩,
   ⟨(some 12), none, .move (.t 37)⟩,
   ⟨(some 13), none, .move (.t 38)⟩] (some [0, 2, 3, 9, 10, 12, 13]))
 (.seq (.seq (.ops [⟨(some 14), none, .move (.c (.int .i64 0))⟩] (some [0, 2, 3, 9, 10, 12, 13, 14]))
 (.block 0
  (.loop
   (.seq (.seq (.ops [⟨(some 39), none, .move (.t 14)⟩,
     ⟨(some 40), none, .move (.t 0)⟩,
     ⟨(some 41), none, .bin .lss 3 (.t 39) (.t 40)⟩] (some [0, 2, 3, 9, 10, 12, 13, 14, 41]))
   (.cond (.t 41)
    .skip
    (.exit 0)))
   (.seq (.block 1
    (.seq (.ops [⟨(some 44), none, .move (.t 10)⟩,
      ⟨(some 45), none, .move (.t 14)⟩,
      ⟨(some 46), none, .move (.t 3)⟩,
      ⟨(some 47), none, .call (.c (.func (.func 21) #[] #[])) [(.t 44), (.t 45), (.t 46), (.c (.bool true))]⟩] (some [0, 2, 3, 9, 10, 12, 13, 14, 47]))
    (.cond (.t 47)
     (.seq (.ops [⟨(some 8), none, .move (.c (.bool true))⟩] (some [8]))
     .ret)
     .skip)))
   (.ops [⟨(some 42), none, .move (.t 14)⟩,
     ⟨(some 43), none, .bin .add 3 (.t 42) (.c (.int .i64 1))⟩,
     ⟨(some 14), none, .move (.t 43)⟩] (some [0, 2, 3, 9, 10, 12, 13, 14])))))))
 (.seq (.seq (.ops [⟨(some 15), none, .move (.c (.int .i64 0))⟩] (some [2, 3, 9, 12, 13, 15]))
 (.block 2
  (.loop
   (.seq (.seq (.ops [⟨(some 48), none, .move (.t 15)⟩,
     ⟨(some 49), none, .move (.t 2)⟩,
     ⟨(some 50), none, .len (.t 49)⟩,
     ⟨(some 51), none, .bin .lss 3 (.t 48) (.t 50)⟩,
     ⟨(some 52), none, .move (.t 51)⟩,
     ⟨(some 53), (some (52, true)), .move (.t 13)⟩,
     ⟨(some 54), (some (52, true)), .bin .eql 31 (.t 53) (.c (.int .i64 0))⟩,
     ⟨(some 55), none, .pick (.t 52) (.t 54) (.c (.bool false))⟩] (some [2, 3, 9, 12, 13, 15, 55]))
   (.cond (.t 55)
    .skip
    (.exit 2)))
   (.seq (.block 3
    (.seq (.ops [⟨(some 16), none, .move (.c (.int .i64 0))⟩] (some [2, 3, 9, 12, 13, 15, 16]))
    (.block 4
     (.loop
      (.seq (.seq (.ops [⟨(some 58), none, .move (.t 16)⟩,
        ⟨(some 59), none, .move (.t 2)⟩,
        ⟨(some 60), none, .len (.t 59)⟩,
        ⟨(some 61), none, .bin .lss 3 (.t 58) (.t 60)⟩] (some [2, 3, 9, 12, 13, 15, 16, 61]))
      (.cond (.t 61)
       .skip
       (.exit 4)))
      (.seq (.block 5
       (.seq (.ops [⟨(some 64), none, .move (.t 12)⟩,
         ⟨(some 65), none, .move (.t 15)⟩,
         ⟨(some 66), none, .indexAddr 1 (.t 64) (.t 65)⟩,
         ⟨(some 67), none, .load false 1 (.t 66)⟩,
         ⟨(some 68), none, .move (.t 16)⟩,
         ⟨(some 69), none, .indexAddr 1 (.t 67) (.t 68)⟩,
         ⟨(some 70), none, .load false 1 (.t 69)⟩,
         ⟨(some 71), none, .move (.t 70)⟩,
         ⟨(some 72), (some (71, true)), .move (.t 2)⟩,
         ⟨(some 73), (some (71, true)), .move (.t 15)⟩,
         ⟨(some 74), (some (71, true)), .indexAddr 1 (.t 72) (.t 73)⟩,
         ⟨(some 75), (some (71, true)), .load false 1 (.t 74)⟩,
         ⟨(some 76), (some (71, true)), .move (.t 3)⟩,
         ⟨(some 77), (some (71, true)), .call (.c (.func (.func 22) #[] #[])) [(.t 75), (.t 76)]⟩,
         ⟨(some 78), none, .pick (.t 71) (.t 77) (.c (.bool false))⟩,
         ⟨(some 79), none, .move (.t 78)⟩,
         ⟨(some 80), (some (79, true)), .move (.t 2)⟩,
         ⟨(some 81), (some (79, true)), .move (.t 16)⟩,
         ⟨(some 82), (some (79, true)), .indexAddr 1 (.t 80) (.t 81)⟩,
         ⟨(some 83), (some (79, true)), .load false 1 (.t 82)⟩,
         ⟨(some 84), (some (79, true)), .move (.t 3)⟩,
         ⟨(some 85), (some (79, true)), .call (.c (.func (.func 22) #[] #[])) [(.t 83), (.t 84)]⟩,
         ⟨(some 86), (some (79, true)), .un .not (.t 85)⟩,
         ⟨(some 87), none, .pick (.t 79) (.t 86) (.c (.bool false))⟩] (some [2, 3, 9, 12, 13, 15, 16, 87]))
       (.cond (.t 87)
        (.seq (.ops [⟨(some 8), none, .move (.c (.bool false))⟩] (some [8]))
        .ret)
        .skip)))
      (.ops [⟨(some 62), none, .move (.t 16)⟩,
        ⟨(some 63), none, .bin .add 3 (.t 62) (.c (.int .i64 1))⟩,
        ⟨(some 16), none, .move (.t 63)⟩] (some [2, 3, 9, 12, 13, 15, 16]))))))))
   (.ops [⟨(some 56), none, .move (.t 15)⟩,
     ⟨(some 57), none, .bin .add 3 (.t 56) (.c (.int .i64 1))⟩,
     ⟨(some 15), none, .move (.t 57)⟩] (some [2, 3, 9, 12, 13, 15])))))))
 (.seq (.ops [⟨(some 88), none, .move (.t 9)⟩,
   ⟨(some 89), none, .move (.t 3)⟩,
   ⟨(some 90), none, .call (.c (.func (.func 20) #[] #[])) [(.t 88), (.t 89)]⟩,
   ⟨(some 91), none, .len (.t 90)⟩,
   ⟨(some 92), none, .bin .eql 3 (.t 91) (.c (.int .i64 0))⟩,
   ⟨(some 8), none, .move (.t 92)⟩] (some [8]))
 .ret)))))))), [.tmp 8]⟩

theorem is6 : FnIs Try.prog 6 x6 := ⟨Try.f6, _, Try.func6, by kernel_rfl, rfl, by kernel_rfl, by decide, by kernel_rfl⟩

/-- cloisonne/cloisonnelaw28.FlowAll -/
def x7 : XDecl := .code ⟨4, 
 (.seq (.ops [⟨(some 8), none, .move (.c (.bool false))⟩] (some [0, 1, 2, 3]))
 (.seq (.seq (.ops [⟨(some 28), none, .call (.c (.func (.func 8) #[] #[])) []⟩,
   ⟨(some 29), none, .un .not (.t 28)⟩] (some [0, 1, 2, 3, 29]))
 (.cond (.t 29)
  (.seq (.ops [⟨(some 8), none, .move (.c (.bool false))⟩] (some [8]))
  .ret)
  .skip))
 (.seq (.ops [⟨(some 31), none, .move (.t 0)⟩,
   ⟨(some 32), none, .move (.t 1)⟩,
   ⟨(some 33), none, .call (.c (.func (.func 9) #[] #[])) [(.t 31), (.t 32)]⟩,
   ⟨(some 30), none, .move (.t 33)⟩,
   ⟨(some 34), none, .extract (.t 30) 0⟩,
   ⟨(some 35), none, .extract (.t 30) 1⟩,
   ⟨(some 36), none, .extract (.t 30) 2⟩,
   ⟨(some 9), none, .move (.t 34)⟩,
   ⟨(some 10), none, .move (.t 35)⟩,
   ⟨(some 11), none, .move (.t 36)⟩] (some [0, 2, 3, 9, 10, 11]))
 (.seq (.seq (.ops [⟨(some 37), none, .move (.t 11)⟩,
   ⟨(some 38), none, .un .not (.t 37)⟩,
   ⟨(some 39), none, .move (.t 38)⟩,
   ⟨(some 40), (some (39, false)), .move (.t 2)⟩,
   ⟨(some 41), (some (39, false)), .len (.t 40)⟩,
   ⟨(some 42), (some (39, false)), .bin .gtr 3 (.t 41) (.c (.int .i64 5))⟩,
   ⟨(some 43), (some (39, false)), .move (.t 42)⟩,
   ⟨(some 44), (some (43, true)), .move (.t 2)⟩,
   ⟨(some 45), (some (43, true)), .len (.t 44)⟩,
   ⟨(some 46), (some (43, true)), .bin .leq 3 (.t 45) (.c (.int .i64 8))⟩,
   ⟨(some 47), (some (39, false)), .pick (.t 43) (.t 46) (.c (.bool false))⟩,
   ⟨(some 48), none, .pick (.t 39) (.c (.bool true)) (.t 47)⟩,
   ⟨(some 49), none, .move (.t 48)⟩,
   ⟨(some 50), (some (49, false)), .move (.t 2)⟩,
   ⟨(some 51), (some (49, false)), .len (.t 50)⟩,
   ⟨(some 52), (some (49, false)), .bin .gtr 3 (.t 51) (.c (.int .i64 20))⟩,
   ⟨(some 53), none, .pick (.t 49) (.c (.bool true)) (.t 52)⟩] (some [0, 2, 3, 9, 10, 53]))
 (.cond (.t 53)
  (.seq (.ops [⟨(some 8), none, .move (.c (.bool true))⟩] (some [8]))
  .ret)
  .skip))
 (.seq (.ops [⟨(some 54), none, .move (.t 2)⟩,
   ⟨(some 55), none, .len (.t 54)⟩,
   ⟨(some 56), none, .bin .leq 3 (.t 55) (.c (.int .i64 8))⟩,
   ⟨(some 12), none, .move (.t 56)⟩] (some [0, 2, 3, 9, 10, 12]))
 (.seq (.seq (.ops [⟨(some 13), none, .move (.c (.int .i64 0))⟩] (some [0, 2, 3, 9, 10, 12, 13]))
 (.block 0
  (.loop
   (.seq (.seq (.ops [⟨(some 57), none, .move (.t 13)⟩,
     ⟨(some 58), none, .move (.t 2)⟩,
     ⟨(some 59), none, .len (.t 58)⟩,
     ⟨(some 60), none, .bin .lss 3 (.t 57) (.t 59)⟩] (some [0, 2, 3, 9, 10, 12, 13, 60]))
   (.cond (.t 60)
    .skip
    (.exit 0)))
   (.seq (.block 1
    (.seq (.seq (.ops [⟨(some 63), none, .move (.t 2)⟩,
      ⟨(some 64), none, .move (.t 13)⟩,
      ⟨(some 65), none, .indexAddr 1 (.t 63) (.t 64)⟩,
      ⟨(some 66), none, .load false 1 (.t 65)⟩,
      ⟨(some 67), none, .len (.t 66)⟩,
      ⟨(some 68), none, .bin .gtr 3 (.t 67) (.c (.int .i64 60))⟩,
      ⟨(some 69), none, .move (.t 68)⟩,
      ⟨(some 70), (some (69, false)), .move (.t 2)⟩,
      ⟨(some 71), (some (69, false)), .move (.t 13)⟩,
      ⟨(some 72), (some (69, false)), .indexAddr 1 (.t 70) (.t 71)⟩,
      ⟨(some 73), (some (69, false)), .load false 1 (.t 72)⟩,
      ⟨(some 74), (some (69, false)), .call (.c (.func (.func 23) #[] #[])) [(.t 73)]⟩,
      ⟨(some 75), (some (69, false)), .move (.t 74)⟩,
      ⟨(some 76), (some (75, true)), .move (.t 2)⟩,
      ⟨(some 77), (some (75, true)), .move (.t 13)⟩,
      ⟨(some 78), (some (75, true)), .indexAddr 1 (.t 76) (.t 77)⟩,
      ⟨(some 79), (some (75, true)), .load false 1 (.t 78)⟩,
      ⟨(some 80), (some (75, true)), .call (.c (.func (.func 12) #[] #[])) [(.t 79)]⟩,
      ⟨(some 81), (some (75, true)), .un .not (.t 80)⟩,
      ⟨(some 82), (some (69, false)), .pick (.t 75) (.t 81) (.c (.bool false))⟩,
      ⟨(some 83), none, .pick (.t 69) (.c (.bool true)) (.t 82)⟩] (some [0, 2, 3, 9, 10, 12, 13, 83]))
    (.cond (.t 83)
     (.seq (.ops [⟨(some 8), none, .move (.c (.bool true))⟩] (some [8]))
     .ret)
     .skip))
    (.ops [⟨(some 84), none, .move (.t 12)⟩,
      ⟨(some 85), none, .move (.t 84)⟩,
      ⟨(some 86), (some (85, true)), .move (.t 2)⟩,
      ⟨(some 87), (some (85, true)), .move (.t 13)⟩,
      ⟨(some 88), (some (85, true)), .indexAddr 1 (.t 86) (.t 87)⟩,
      ⟨(some 89), (some (85, true)), .load false 1 (.t 88)⟩,
      ⟨(some 90), (some (85, true)), .call (.c (.func (.func 23) #[] #[])) [(.t 89)]⟩,
      ⟨(some 91), none, .pick (.t 85) (.t 90) (.c (.bool false))⟩,
      ⟨(some 12), none, .move (.t 91)⟩] (some [0, 2, 3, 9, 10, 12, 13]))))
   (.ops [⟨(some 61), none, .move (.t 13)⟩,
     ⟨(some 62), none, .bin .add 3 (.t 61) (.c (.int .i64 1))⟩,
     ⟨(some 13), none, .move (.t 62)⟩] (some [0, 2, 3, 9, 10, 12, 13])))))))
 (.seq (.ops [⟨(some 93), none, .move (.t 9)⟩,
   ⟨(some 94), none, .move (.t 2)⟩,
   ⟨(some 95), none, .call (.c (.func (.func 18) #[] #[])) [(.t 93), (.t 94)]⟩,
   ⟨(some 92), none, .move (.t 95)⟩,
   ⟨(some 96), none, .extract (.t 92) 0⟩,
   ⟨(some 97), none, .extract (.t 92) 1⟩,
   ⟨(some 14), none, .move (.t 96)⟩,
   ⟨(some 15), none, .move (.t 97)⟩] (some [0, 2, 3, 9, 10, 12, 14, 15]))
 (.seq (.ops [⟨(some 99), none, .move (.t 9)⟩,
   ⟨(some 100), none, .move (.t 2)⟩,
   ⟨(some 101), none, .call (.c (.func (.func 19) #[] #[])) [(.t 99), (.t 100)]⟩,
   ⟨(some 98), none, .move (.t 101)⟩,
   ⟨(some 102), none, .extract (.t 98) 0⟩,
   ⟨(some 103), none, .extract (.t 98) 1⟩,
   ⟨(some 16), none, .move (.t 102)⟩,
   ⟨(some 17), none, .move (.t 103)⟩] (some [0, 2, 3, 9, 10, 12, 14, 15, 16, 17]))
 (.seq (.seq (.ops [⟨(some 104), none, .move (.t 12)⟩,
   ⟨(some 105), none, .un .not (.t 104)⟩] (some [0, 2, 3, 9, 10, 14, 15, 16, 17, 105]))
 (.cond (.t 105)
  (.seq (.ops [⟨(some 106), none, .move (.t 14)⟩,
    ⟨(some 107), none, .len (.t 106)⟩,
    ⟨(some 108), none, .bin .eql 3 (.t 107) (.c (.int .i64 0))⟩,
    ⟨(some 109), none, .move (.t 108)⟩,
    ⟨(some 110), (some (109, true)), .move (.t 15)⟩,
    ⟨(some 111), (some (109, true)), .bin .eql 31 (.t 110) (.c (.int .i64 1))⟩,
    ⟨(some 112), none, .pick (.t 109) (.t 111) (.c (.bool false))⟩,
    ⟨(some 113), none, .move (.t 112)⟩,
    ⟨(some 114), (some (113, true)), .move (.t 16)⟩,
    ⟨(some 115), (some (113, true)), .len (.t 114)⟩,
    ⟨(some 116), (some (113, true)), .bin .eql 3 (.t 115) (.c (.int .i64 0))⟩,
    ⟨(some 117), none, .pick (.t 113) (.t 116) (.c (.bool false))⟩,
    ⟨(some 118), none, .move (.t 117)⟩,
    ⟨(some 119), (some (118, true)), .move (.t 17)⟩,
    ⟨(some 120), (some (118, true)), .bin .eql 31 (.t 119) (.c (.int .i64 1))⟩,
    ⟨(some 121), none, .pick (.t 118) (.t 120) (.c (.bool false))⟩,
    ⟨(some 8), none, .move (.t 121)⟩] (some [8]))
  .ret)
  .skip))
 (.seq (.seq (.ops [⟨(some 122), none, .move (.t 15)⟩,
   ⟨(some 123), none, .bin .neq 31 (.t 122) (.c (.int .i64 0))⟩,
   ⟨(some 124), none, .move (.t 123)⟩,
   ⟨(some 125), (some (124, false)), .move (.t 17)⟩,
   ⟨(some 126), (some (124, false)), .bin .neq 31 (.t 125) (.c (.int .i64 0))⟩,
   ⟨(some 127), none, .pick (.t 124) (.c (.bool true)) (.t 126)⟩,
   ⟨(some 128), none, .move (.t 127)⟩,
   ⟨(some 129), (some (128, false)), .move (.t 14)⟩,
   ⟨(some 130), (some (128, false)), .len (.t 129)⟩,
   ⟨(some 131), (some (128, false)), .move (.t 2)⟩,
   ⟨(some 132), (some (128, false)), .len (.t 131)⟩,
   ⟨(some 133), (some (128, false)), .bin .neq 3 (.t 130) (.t 132)⟩,
   ⟨(some 134), none, .pick (.t 128) (.c (.bool true)) (.t 133)⟩] (some [0, 2, 3, 9, 10, 14, 16, 134]))
 (.cond (.t 134)
  (.seq (.ops [⟨(some 8), none, .move (.c (.bool false))⟩] (some [8]))
  .ret)
  .skip))
 (.seq (.ops [⟨(some 18), none, .move (.c (.int .i64 0))⟩] (some [0, 2, 3, 9, 10, 14, 16, 18]))
 (.seq (.seq (.ops [⟨(some 19), none, .move (.c (.int .i64 0))⟩] (some [0, 2, 3, 9, 10, 14, 16, 18, 19]))
 (.block 2
  (.loop
   (.seq (.seq (.ops [⟨(some 135), none, .move (.t 19)⟩,
     ⟨(some 136), none, .move (.t 2)⟩,
     ⟨(some 137), none, .len (.t 136)⟩,
     ⟨(some 138), none, .bin .lss 3 (.t 135) (.t 137)⟩] (some [0, 2, 3, 9, 10, 14, 16, 18, 19, 138]))
   (.cond (.t 138)
    .skip
    (.exit 2)))
   (.seq (.block 3
    (.seq (.ops [⟨(some 141), none, .move (.t 2)⟩,
      ⟨(some 142), none, .len (.t 141)⟩,
      ⟨(some 143), none, .makeSlice [(.bool false)] 1 (.t 142) (.t 142)⟩,
      ⟨(some 20), none, .move (.t 143)⟩] (some [0, 2, 3, 9, 10, 14, 16, 18, 19, 20]))
    (.seq (.ops [⟨(some 144), none, .move (.t 20)⟩,
      ⟨(some 145), none, .move (.t 19)⟩,
      ⟨(some 146), none, .indexAddr 1 (.t 144) (.t 145)⟩,
      ⟨none, none, .store 1 (.t 146) (.c (.bool true))⟩] (some [0, 2, 3, 9, 10, 14, 16, 18, 19, 20]))
    (.seq (.ops [⟨(some 147), none, .move (.t 19)⟩,
      ⟨(some 148), none, .buildSlice [(.int .i64 0)] 1 1 [(0, (.t 147))]⟩,
      ⟨(some 21), none, .move (.t 148)⟩] (some [0, 2, 3, 9, 10, 14, 16, 18, 19, 20, 21]))
    (.seq (.seq (.ops [⟨(some 22), none, .move (.c (.int .i64 0))⟩] (some [0, 2, 3, 9, 10, 14, 16, 18, 19, 20, 21, 22]))
    (.block 4
     (.loop
      (.seq (.seq (.ops [⟨(some 149), none, .move (.t 22)⟩,
        ⟨(some 150), none, .move (.t 21)⟩,
        ⟨(some 151), none, .len (.t 150)⟩,
        ⟨(some 152), none, .bin .lss 3 (.t 149) (.t 151)⟩] (some [0, 2, 3, 9, 10, 14, 16, 18, 19, 20, 21, 22, 152]))
      (.cond (.t 152)
       .skip
       (.exit 4)))
      (.seq (.block 5
       (.seq (.ops [⟨(some 23), none, .move (.c (.int .i64 0))⟩] (some [0, 2, 3, 9, 10, 14, 16, 18, 19, 20, 21, 22, 23]))
       (.block 6
        (.loop
         (.seq (.seq (.ops [⟨(some 155), none, .move (.t 23)⟩,
           ⟨(some 156), none, .move (.t 2)⟩,
           ⟨(some 157), none, .len (.t 156)⟩,
           ⟨(some 158), none, .bin .lss 3 (.t 155) (.t 157)⟩] (some [0, 2, 3, 9, 10, 14, 16, 18, 19, 20, 21, 22, 23, 158]))
         (.cond (.t 158)
          .skip
          (.exit 6)))
         (.seq (.block 7
          (.seq (.ops [⟨(some 24), none, .move (.c (.int .i64 0))⟩] (some [0, 2, 3, 9, 10, 14, 16, 18, 19, 20, 21, 22, 23, 24]))
          (.block 8
           (.loop
            (.seq (.seq (.ops [⟨(some 161), none, .move (.t 24)⟩,
              ⟨(some 162), none, .move (.t 0)⟩,
              ⟨(some 163), none, .bin .lss 3 (.t 161) (.t 162)⟩,
              ⟨(some 164), none, .move (.t 163)⟩,
              ⟨(some 165), (some (164, true)), .move (.t 20)⟩,
              ⟨(some 166), (some (164, true)), .move (.t 23)⟩,
              ⟨(some 167), (some (164, true)), .indexAddr 1 (.t 165) (.t 166)⟩,
              ⟨(some 168), (some (164, true)), .load false 1 (.t 167)⟩,
              ⟨(some 169), (some (164, true)), .un .not (.t 168)⟩,
              ⟨(some 170), none, .pick (.t 164) (.t 169) (.c (.bool false))⟩] (some [0, 2, 3, 9, 10, 14, 16, 18, 19, 20, 21, 22, 23, 24, 170]))
            (.cond (.t 170)
             .skip
             (.exit 8)))
            (.seq (.block 9
             (.seq (.opsd [(0, 0, ⟨(some 173), none, .move (.t 10)⟩),
               (1, 0, ⟨(some 174), none, .move (.t 24)⟩),
               (2, 0, ⟨(some 175), none, .move (.t 2)⟩),
               (3, 0, ⟨(some 176), none, .move (.t 21)⟩),
               (4, 0, ⟨(some 177), none, .move (.t 22)⟩),
               (5, 24, ⟨(some 178), none, .indexAddr 1 (.t 176) (.t 177)⟩),
               (6, 56, ⟨(some 179), none, .load false 1 (.t 178)⟩),
               (7, 124, ⟨(some 180), none, .indexAddr 1 (.t 175) (.t 179)⟩),
               (8, 252, ⟨(some 181), none, .load false 1 (.t 180)⟩),
               (9, 0, ⟨(some 182), none, .move (.t 2)⟩),
               (10, 0, ⟨(some 183), none, .move (.t 23)⟩),
               (11, 1536, ⟨(some 184), none, .indexAddr 1 (.t 182) (.t 183)⟩),
               (12, 3584, ⟨(some 185), none, .load false 1 (.t 184)⟩),
               (13, 8191, ⟨(some 186), none, .call (.c (.func (.func 17) #[] #[])) [(.t 173), (.t 174), (.t 181), (.t 185)]⟩)] (some [0, 2, 3, 9, 10, 14, 16, 18, 19, 20, 21, 22, 23, 24, 186]))
             (.cond (.t 186)
              (.seq (.ops [⟨(some 187), none, .move (.t 20)⟩,
                ⟨(some 188), none, .move (.t 23)⟩,
                ⟨(some 189), none, .indexAddr 1 (.t 187) (.t 188)⟩,
                ⟨none, none, .store 1 (.t 189) (.c (.bool true))⟩] (some [0, 2, 3, 9, 10, 14, 16, 18, 19, 20, 21, 22, 23, 24]))
              (.ops [⟨(some 190), none, .move (.t 21)⟩,
                ⟨(some 191), none, .move (.t 23)⟩,
                ⟨(some 192), none, .buildSlice [(.int .i64 0)] 1 1 [(0, (.t 191))]⟩,
                ⟨(some 193), none, .append 1 8 [(.int .i64 0)] (.t 190) (.t 192)⟩,
                ⟨(some 21), none, .move (.t 193)⟩] (some [0, 2, 3, 9, 10, 14, 16, 18, 19, 20, 21, 22, 23, 24])))
              .skip)))
            (.ops [⟨(some 171), none, .move (.t 24)⟩,
              ⟨(some 172), none, .bin .add 3 (.t 171) (.c (.int .i64 1))⟩,
              ⟨(some 24), none, .move (.t 172)⟩] (some [0, 2, 3, 9, 10, 14, 16, 18, 19, 20, 21, 22, 23, 24]))))))))
         (.ops [⟨(some 159), none, .move (.t 23)⟩,
           ⟨(some 160), none, .bin .add 3 (.t 159) (.c (.int .i64 1))⟩,
           ⟨(some 23), none, .move (.t 160)⟩] (some [0, 2, 3, 9, 10, 14, 16, 18, 19, 20, 21, 22, 23]))))))))
      (.ops [⟨(some 153), none, .move (.t 22)⟩,
        ⟨(some 154), none, .bin .add 3 (.t 153) (.c (.int .i64 1))⟩,
        ⟨(some 22), none, .move (.t 154)⟩] (some [0, 2, 3, 9, 10, 14, 16, 18, 19, 20, 21, 22])))))))
    (.seq (.seq (.ops [⟨(some 194), none, .move (.t 14)⟩,
      ⟨(some 195), none, .move (.t 19)⟩,
      ⟨(some 196), none, .indexAddr 1 (.t 194) (.t 195)⟩,
      ⟨(some 197), none, .load false 1 (.t 196)⟩,
      ⟨(some 198), none, .len (.t 197)⟩,
      ⟨(some 199), none, .move (.t 2)⟩,
      ⟨(some 200), none, .len (.t 199)⟩,
      ⟨(some 201), none, .bin .neq 3 (.t 198) (.t 200)⟩] (some [0, 2, 3, 9, 10, 14, 16, 18, 19, 20, 201]))
    (.cond (.t 201)
     (.seq (.ops [⟨(some 8), none, .move (.c (.bool false))⟩] (some [8]))
     .ret)
     .skip))
    (.seq (.ops [⟨(some 25), none, .move (.c (.int .i64 0))⟩] (some [0, 2, 3, 9, 10, 14, 16, 18, 19, 20, 25]))
    (.block 10
     (.loop
      (.seq (.seq (.ops [⟨(some 202), none, .move (.t 25)⟩,
        ⟨(some 203), none, .move (.t 2)⟩,
        ⟨(some 204), none, .len (.t 203)⟩,
        ⟨(some 205), none, .bin .lss 3 (.t 202) (.t 204)⟩] (some [0, 2, 3, 9, 10, 14, 16, 18, 19, 20, 25, 205]))
      (.cond (.t 205)
       .skip
       (.exit 10)))
      (.seq (.block 11
       (.seq (.seq (.opsr [⟨(some 208), none, .move (.t 14)⟩,
         ⟨(some 209), none, .move (.t 19)⟩,
         ⟨(some 210), none, .indexAddr 1 (.t 208) (.t 209)⟩,
         ⟨(some 211), none, .load false 1 (.t 210)⟩,
         ⟨(some 212), none, .move (.t 25)⟩,
         ⟨(some 213), none, .indexAddr 1 (.t 211) (.t 212)⟩,
         ⟨(some 214), none, .load false 1 (.t 213)⟩,
         ⟨(some 215), none, .move (.t 20)⟩,
         ⟨(some 216), none, .move (.t 25)⟩,
         ⟨(some 217), none, .indexAddr 1 (.t 215) (.t 216)⟩,
         ⟨(some 218), none, .load false 1 (.t 217)⟩,
         ⟨(some 219), none, .bin .neq 4 (.t 214) (.t 218)⟩] (some [0, 2, 3, 9, 10, 14, 16, 18, 19, 20, 25, 219]))
       (.cond (.t 219)
        (.seq (.ops [⟨(some 8), none, .move (.c (.bool false))⟩] (some [8]))
        .ret)
        .skip))
       (.seq (.opsd [(0, 0, ⟨(some 220), none, .move (.t 20)⟩),
         (1, 0, ⟨(some 221), none, .move (.t 25)⟩),
         (2, 3, ⟨(some 222), none, .indexAddr 1 (.t 220) (.t 221)⟩),
         (3, 7, ⟨(some 223), none, .load false 1 (.t 222)⟩),
         (4, 15, ⟨(some 224), none, .move (.t 223)⟩),
         (5, 31, ⟨(some 225), (some (224, true)), .move (.t 2)⟩),
         (6, 31, ⟨(some 226), (some (224, true)), .move (.t 19)⟩),
         (7, 127, ⟨(some 227), (some (224, true)), .indexAddr 1 (.t 225) (.t 226)⟩),
         (8, 255, ⟨(some 228), (some (224, true)), .load false 1 (.t 227)⟩),
         (9, 31, ⟨(some 229), (some (224, true)), .move (.t 2)⟩),
         (10, 31, ⟨(some 230), (some (224, true)), .move (.t 25)⟩),
         (11, 1567, ⟨(some 231), (some (224, true)), .indexAddr 1 (.t 229) (.t 230)⟩),
         (12, 3615, ⟨(some 232), (some (224, true)), .load false 1 (.t 231)⟩),
         (13, 8191, ⟨(some 233), (some (224, true)), .call (.c (.func (.func 24) #[] #[])) [(.t 228), (.t 232)]⟩),
         (14, 16383, ⟨(some 234), (some (224, true)), .un .not (.t 233)⟩),
         (15, 32767, ⟨(some 235), none, .pick (.t 224) (.t 234) (.c (.bool false))⟩)] (some [0, 2, 3, 9, 10, 14, 16, 18, 19, 20, 25, 235]))
       (.cond (.t 235)
        (.seq (.seq (.ops [⟨(some 236), none, .move (.t 18)⟩,
          ⟨(some 237), none, .move (.t 16)⟩,
          ⟨(some 238), none, .len (.t 237)⟩,
          ⟨(some 239), none, .bin .geq 3 (.t 236) (.t 238)⟩,
          ⟨(some 240), none, .move (.t 239)⟩,
          ⟨(some 241), (some (240, false)), .move (.t 16)⟩,
          ⟨(some 242), (some (240, false)), .move (.t 18)⟩,
          ⟨(some 243), (some (240, false)), .indexAddr 2 (.t 241) (.t 242)⟩,
          ⟨(some 244), (some (240, false)), .load true 2 (.t 243)⟩,
          ⟨(some 245), (some (240, false)), .move (.t 19)⟩,
          ⟨(some 246), (some (240, false)), .move (.t 25)⟩,
          ⟨(some 247), (some (240, false)), .buildArr [(.int .i64 0), (.int .i64 0)] 1 [(0, (.t 245)), (1, (.t 246))]⟩,
          ⟨(some 248), (some (240, false)), .bin .neq 61 (.t 244) (.t 247)⟩,
          ⟨(some 249), none, .pick (.t 240) (.c (.bool true)) (.t 248)⟩] (some [0, 2, 3, 9, 10, 14, 16, 18, 19, 20, 25, 249]))
        (.cond (.t 249)
         (.seq (.ops [⟨(some 8), none, .move (.c (.bool false))⟩] (some [8]))
         .ret)
         .skip))
        (.ops [⟨(some 250), none, .move (.t 18)⟩,
          ⟨(some 251), none, .bin .add 3 (.t 250) (.c (.int .i64 1))⟩,
          ⟨(some 18), none, .move (.t 251)⟩] (some [0, 2, 3, 9, 10, 14, 16, 18, 19, 20, 25])))
        .skip))))
      (.ops [⟨(some 206), none, .move (.t 25)⟩,
        ⟨(some 207), none, .bin .add 3 (.t 206) (.c (.int .i64 1))⟩,
        ⟨(some 25), none, .move (.t 207)⟩] (some [0, 2, 3, 9, 10, 14, 16, 18, 19, 20, 25])))))))))))))
   (.ops [⟨(some 139), none, .move (.t 19)⟩,
     ⟨(some 140), none, .bin .add 3 (.t 139) (.c (.int .i64 1))⟩,
     ⟨(some 19), none, .move (.t 140)⟩] (some [0, 2, 3, 9, 10, 14, 16, 18, 19])))))))
 (.seq (.ops [⟨(some 252), none, .buildSlice [(.int .i64 0)] 1 0 []⟩,
   ⟨(some 26), none, .move (.t 252)⟩] (some [0, 3, 9, 10, 16, 18, 26]))
 (.seq (.seq (.ops [⟨(some 27), none, .move (.c (.int .i64 0))⟩] (some [0, 3, 9, 10, 16, 18, 26, 27]))
 (.block 12
  (.loop
   (.seq (.seq (.ops [⟨(some 253), none, .move (.t 27)⟩,
     ⟨(some 254), none, .move (.t 0)⟩,
     ⟨(some 255), none, .bin .lss 3 (.t 253) (.t 254)⟩] (some [0, 3, 9, 10, 16, 18, 26, 27, 255]))
   (.cond (.t 255)
    .skip
    (.exit 12)))
   (.seq (.block 13
    (.seq (.ops [⟨(some 258), none, .move (.t 10)⟩,
      ⟨(some 259), none, .move (.t 27)⟩,
      ⟨(some 260), none, .move (.t 3)⟩,
      ⟨(some 261), none, .call (.c (.func (.func 21) #[] #[])) [(.t 258), (.t 259), (.t 260), (.c (.bool true))]⟩] (some [0, 3, 9, 10, 16, 18, 26, 27, 261]))
    (.cond (.t 261)
     (.ops [⟨(some 262), none, .move (.t 26)⟩,
       ⟨(some 263), none, .move (.t 27)⟩,
       ⟨(some 264), none, .buildSlice [(.int .i64 0)] 1 1 [(0, (.t 263))]⟩,
       ⟨(some 265), none, .append 1 8 [(.int .i64 0)] (.t 262) (.t 264)⟩,
       ⟨(some 26), none, .move (.t 265)⟩] (some [0, 3, 9, 10, 16, 18, 26, 27]))
     .skip)))
   (.ops [⟨(some 256), none, .move (.t 27)⟩,
     ⟨(some 257), none, .bin .add 3 (.t 256) (.c (.int .i64 1))⟩,
     ⟨(some 27), none, .move (.t 257)⟩] (some [0, 3, 9, 10, 16, 18, 26, 27])))))))
 (.seq (.ops [⟨(some 266), none, .move (.t 18)⟩,
   ⟨(some 267), none, .move (.t 16)⟩,
   ⟨(some 268), none, .len (.t 267)⟩,
   ⟨(some 269), none, .bin .eql 3 (.t 266) (.t 268)⟩,
   ⟨(some 270), none, .move (.t 269)⟩,
   ⟨(some 271), (some (270, true)), .move (.t 9)⟩,
   ⟨(some 272), (some (270, true)), .move (.t 3)⟩,
   ⟨(some 273), (some (270, true)), .call (.c (.func (.func 20) #[] #[])) [(.t 271), (.t 272)]⟩,
   ⟨(some 274), (some (270, true)), .move (.t 26)⟩,
   ⟨(some 275), (some (270, true)), .call (.c (.func (.func 25) #[] #[])) [(.t 273), (.t 274)]⟩,
   ⟨(some 276), none, .pick (.t 270) (.t 275) (.c (.bool false))⟩,
   ⟨(some 8), none, .move (.t 276)⟩] (some [8]))
 .ret))))))))))))))), [.tmp 8]⟩

theorem is7 : FnIs Try.prog 7 x7 := ⟨Try.f7, _, Try.func7, by kernel_rfl, rfl, by kernel_rfl, by decide, by kernel_rfl⟩

/-- cloisonne/cloisonnelaw28.awake -/
def x8 : XDecl := .code ⟨0, 
 (.seq (.ops [⟨(some 0), none, .move (.c (.bool false))⟩] (some []))
 (.seq (.ops [⟨(some 4), none, .buildSlice [(.int .u64 0)] 1 1 [(0, (.c (.int .u64 1)))]⟩,
   ⟨(some 5), none, .buildSlice [(.int .u64 0)] 1 1 [(0, (.c (.int .u64 0)))]⟩,
   ⟨(some 6), none, .call (.c (.func (.func 26) #[] #[])) [(.c (.int .i64 1)), (.t 4), (.t 5)]⟩,
   ⟨(some 3), none, .move (.t 6)⟩,
   ⟨(some 7), none, .extract (.t 3) 0⟩,
   ⟨(some 8), none, .extract (.t 3) 1⟩,
   ⟨(some 1), none, .move (.t 7)⟩,
   ⟨(some 2), none, .move (.t 8)⟩] (some [1, 2]))
 (.seq (.ops [⟨(some 9), none, .move (.t 2)⟩,
   ⟨(some 10), none, .bin .eql 31 (.t 9) (.c (.int .i64 0))⟩,
   ⟨(some 11), none, .move (.t 10)⟩,
   ⟨(some 12), (some (11, true)), .move (.t 1)⟩,
   ⟨(some 13), (some (11, true)), .buildSlice [(.int .u64 0)] 1 1 [(0, (.c (.int .u64 1)))]⟩,
   ⟨(some 14), (some (11, true)), .call (.c (.func (.func 10) #[] #[])) [(.t 12), (.c (.int .i64 0)), (.c (.slice none 0 0)), (.t 13)]⟩,
   ⟨(some 15), none, .pick (.t 11) (.t 14) (.c (.bool false))⟩,
   ⟨(some 16), none, .move (.t 15)⟩,
   ⟨(some 17), (some (16, true)), .move (.t 1)⟩,
   ⟨(some 18), (some (16, true)), .buildSlice [(.int .u64 0)] 1 1 [(0, (.c (.int .u64 1)))]⟩,
   ⟨(some 19), (some (16, true)), .call (.c (.func (.func 10) #[] #[])) [(.t 17), (.c (.int .i64 0)), (.t 18), (.c (.slice none 0 0))]⟩,
   ⟨(some 20), (some (16, true)), .un .not (.t 19)⟩,
   ⟨(some 21), none, .pick (.t 16) (.t 20) (.c (.bool false))⟩,
   ⟨(some 0), none, .move (.t 21)⟩] (some [0]))
 .ret))), [.tmp 0]⟩

theorem is8 : FnIs Try.prog 8 x8 := ⟨Try.f8, _, Try.func8, by kernel_rfl, rfl, by kernel_rfl, by decide, by kernel_rfl⟩

/-- cloisonne/cloisonnelaw28.table -/
def x9 : XDecl := .code ⟨2, 
 (.seq (.ops [⟨(some 4), none, .move (.c (.pointer none))⟩,
   ⟨(some 5), none, .move (.c (.pointer none))⟩,
   ⟨(some 6), none, .move (.c (.bool false))⟩] (some [0, 1]))
 (.seq (.ops [⟨(some 12), none, .move (.t 0)⟩,
   ⟨(some 13), none, .call (.c (.func (.func 27) #[] #[])) [(.t 12)]⟩,
   ⟨(some 11), none, .move (.t 13)⟩,
   ⟨(some 14), none, .extract (.t 11) 0⟩,
   ⟨(some 15), none, .extract (.t 11) 1⟩,
   ⟨(some 7), none, .move (.t 14)⟩,
   ⟨(some 8), none, .move (.t 15)⟩] (some [0, 1, 7, 8]))
 (.seq (.seq (.ops [⟨(some 16), none, .move (.t 8)⟩,
   ⟨(some 17), none, .bin .neq 31 (.t 16) (.c (.int .i64 0))⟩] (some [0, 1, 7, 17]))
 (.cond (.t 17)
  (.seq (.ops [⟨(some 4), none, .move (.c (.pointer none))⟩,
    ⟨(some 5), none, .move (.c (.pointer none))⟩,
    ⟨(some 6), none, .move (.c (.bool false))⟩] (some [4, 5, 6]))
  .ret)
  .skip))
 (.seq (.ops [⟨(some 18), none, .move (.t 0)⟩,
   ⟨(some 19), none, .build [(.int .i64 0), (.int .i64 0), (.slice none 0 0)] [(0, 1), (1, 1), (2, 1)] [(0, (.t 18))]⟩,
   ⟨(some 20), none, .box (.t 19)⟩,
   ⟨(some 9), none, .move (.t 20)⟩] (some [1, 7, 9]))
 (.seq (.seq (.ops [⟨(some 10), none, .move (.c (.int .i64 0))⟩] (some [1, 7, 9, 10]))
 (.block 0
  (.loop
   (.seq (.seq (.ops [⟨(some 21), none, .move (.t 10)⟩,
     ⟨(some 22), none, .move (.t 1)⟩,
     ⟨(some 23), none, .len (.t 22)⟩,
     ⟨(some 24), none, .bin .lss 3 (.t 21) (.t 23)⟩,
     ⟨(some 25), none, .move (.t 24)⟩,
     ⟨(some 26), (some (25, true)), .move (.t 10)⟩,
     ⟨(some 27), (some (25, true)), .bin .lss 3 (.t 26) (.c (.int .i64 60))⟩,
     ⟨(some 28), none, .pick (.t 25) (.t 27) (.c (.bool false))⟩] (some [1, 7, 9, 10, 28]))
   (.cond (.t 28)
    .skip
    (.exit 0)))
   (.seq (.block 1
    (.seq (.ops [⟨(some 31), none, .move (.t 9)⟩,
      ⟨(some 32), none, .nilCheck (.t 31)⟩,
      ⟨(some 33), none, .fieldAddr 1 (.t 32)⟩,
      ⟨(some 34), none, .load false 1 (.t 33)⟩,
      ⟨(some 35), none, .bin .lss 3 (.t 34) (.c (.int .i64 8))⟩,
      ⟨(some 36), none, .move (.t 35)⟩,
      ⟨(some 37), (some (36, false)), .move (.t 1)⟩,
      ⟨(some 38), (some (36, false)), .move (.t 10)⟩,
      ⟨(some 39), (some (36, false)), .indexAddr 5 (.t 37) (.t 38)⟩,
      ⟨(some 40), (some (36, false)), .fieldAddr 0 (.t 39)⟩,
      ⟨(some 41), (some (36, false)), .load false 1 (.t 40)⟩,
      ⟨(some 42), (some (36, false)), .bin .neq 3 (.t 41) (.c (.int .i64 1))⟩,
      ⟨(some 43), none, .pick (.t 36) (.c (.bool true)) (.t 42)⟩] (some [1, 7, 9, 10, 43]))
    (.cond (.t 43)
     (.seq (.ops [⟨(some 44), none, .move (.t 7)⟩,
       ⟨(some 45), none, .move (.t 1)⟩,
       ⟨(some 46), none, .move (.t 10)⟩,
       ⟨(some 47), none, .indexAddr 5 (.t 45) (.t 46)⟩,
       ⟨(some 48), none, .load true 5 (.t 47)⟩,
       ⟨(some 49), none, .call (.c (.func (.func 11) #[] #[])) [(.t 44), (.t 48)]⟩] (some [1, 7, 9, 10]))
     (.ops [⟨(some 50), none, .move (.t 9)⟩,
       ⟨(some 51), none, .move (.t 1)⟩,
       ⟨(some 52), none, .move (.t 10)⟩,
       ⟨(some 53), none, .indexAddr 5 (.t 51) (.t 52)⟩,
       ⟨(some 54), none, .load true 5 (.t 53)⟩,
       ⟨(some 55), none, .call (.c (.func (.func 28) #[] #[])) [(.t 50), (.t 54)]⟩] (some [1, 7, 9, 10])))
     .skip)))
   (.ops [⟨(some 29), none, .move (.t 10)⟩,
     ⟨(some 30), none, .bin .add 3 (.t 29) (.c (.int .i64 1))⟩,
     ⟨(some 10), none, .move (.t 30)⟩] (some [1, 7, 9, 10])))))))
 (.seq (.ops [⟨(some 56), none, .move (.t 7)⟩,
   ⟨(some 57), none, .move (.t 9)⟩,
   ⟨(some 4), none, .move (.t 56)⟩,
   ⟨(some 5), none, .move (.t 57)⟩,
   ⟨(some 6), none, .move (.c (.bool true))⟩] (some [4, 5, 6]))
 .ret)))))), [.tmp 4, .tmp 5, .tmp 6]⟩

theorem is9 : FnIs Try.prog 9 x9 := ⟨Try.f9, _, Try.func9, by kernel_rfl, rfl, by kernel_rfl, by decide, by kernel_rfl⟩

/-- cloisonne/flow.Comes -/
def x10 : XDecl := .code ⟨4, 
 (.seq (.ops [⟨(some 4), none, .box (.t 0)⟩,
   ⟨(some 5), none, .box (.t 1)⟩,
   ⟨(some 8), none, .move (.c (.bool false))⟩] (some [2, 3, 4, 5]))
 (.seq (.seq (.ops [⟨(some 10), none, .load false 1 (.t 4)⟩,
   ⟨(some 11), none, .load false 1 (.t 5)⟩,
   ⟨(some 12), none, .call (.c (.func (.func 29) #[] #[])) [(.t 10), (.t 11)]⟩,
   ⟨(some 13), none, .un .not (.t 12)⟩,
   ⟨(some 14), none, .move (.t 13)⟩,
   ⟨(some 15), (some (14, false)), .move (.t 2)⟩,
   ⟨(some 16), (some (14, false)), .call (.c (.func (.func 30) #[] #[])) [(.t 15)]⟩,
   ⟨(some 17), (some (14, false)), .un .not (.t 16)⟩,
   ⟨(some 18), none, .pick (.t 14) (.c (.bool true)) (.t 17)⟩,
   ⟨(some 19), none, .move (.t 18)⟩,
   ⟨(some 20), (some (19, false)), .move (.t 3)⟩,
   ⟨(some 21), (some (19, false)), .call (.c (.func (.func 30) #[] #[])) [(.t 20)]⟩,
   ⟨(some 22), (some (19, false)), .un .not (.t 21)⟩,
   ⟨(some 23), none, .pick (.t 19) (.c (.bool true)) (.t 22)⟩] (some [2, 3, 4, 5, 23]))
 (.cond (.t 23)
  (.seq (.ops [⟨(some 8), none, .move (.c (.bool false))⟩] (some [8]))
  .ret)
  .skip))
 (.seq (.ops [⟨(some 24), none, .makeFunc (.func 31) [] [(.t 4), (.t 5)]⟩,
   ⟨(some 9), none, .move (.t 24)⟩] (some [2, 3, 4, 5, 9]))
 (.seq (.opsd [(0, 0, ⟨(some 25), none, .move (.t 2)⟩),
   (1, 0, ⟨(some 26), none, .move (.t 3)⟩),
   (3, 0, ⟨(some 28), none, .move (.t 9)⟩),
   (2, 3, ⟨(some 27), none, .call (.c (.func (.func 34) #[] #[])) [(.t 25), (.t 26)]⟩),
   (4, 15, ⟨(some 29), none, .call (.c (.func (.func 33) #[] #[])) [(.t 27), (.t 28)]⟩),
   (5, 31, ⟨(some 30), none, .un .not (.t 29)⟩),
   (6, 63, ⟨(some 31), none, .move (.t 30)⟩),
   (7, 127, ⟨(some 32), (some (31, true)), .load false 1 (.t 4)⟩),
   (8, 127, ⟨(some 33), (some (31, true)), .load false 1 (.t 5)⟩),
   (9, 127, ⟨(some 34), (some (31, true)), .move (.t 3)⟩),
   (10, 127, ⟨(some 35), (some (31, true)), .move (.t 2)⟩),
   (11, 1663, ⟨(some 36), (some (31, true)), .call (.c (.func (.func 34) #[] #[])) [(.t 34), (.t 35)]⟩),
   (12, 4095, ⟨(some 37), (some (31, true)), .call (.c (.func (.func 35) #[] #[])) [(.t 32), (.t 33), (.c (.slice none 0 0)), (.t 36)]⟩),
   (13, 8191, ⟨(some 38), none, .pick (.t 31) (.t 37) (.c (.bool false))⟩),
   (14, 16383, ⟨(some 8), none, .move (.t 38)⟩)] (some [8]))
 .ret)))), [.tmp 8]⟩

theorem is10 : FnIs Try.prog 10 x10 := ⟨Try.f10, _, Try.func10, by kernel_rfl, rfl, by kernel_rfl, by decide, by kernel_rfl⟩

/-- (*cloisonne/caps.Table).Do -/
def x11 : XDecl := .code ⟨2, 
 (.seq (.ops [⟨(some 3), none, .box (.t 1)⟩,
   ⟨(some 4), none, .move (.c (.int .u64 0))⟩,
   ⟨(some 5), none, .move (.c (.int .i64 0))⟩] (some [0, 3]))
 (.seq (.seq (.ops [⟨(some 8), none, .move (.t 0)⟩,
   ⟨(some 9), none, .load true 5 (.t 3)⟩,
   ⟨(some 10), none, .call (.c (.func (.func 36) #[] #[])) [(.t 8), (.t 9)]⟩,
   ⟨(some 6), none, .move (.t 10)⟩] (some [0, 3, 6]))
 (.seq (.ops [⟨(some 11), none, .move (.t 6)⟩,
   ⟨(some 12), none, .bin .neq 31 (.t 11) (.c (.int .i64 0))⟩] (some [0, 3, 6, 12]))
 (.cond (.t 12)
  (.seq (.ops [⟨(some 13), none, .move (.t 6)⟩,
    ⟨(some 4), none, .move (.c (.int .u64 0))⟩,
    ⟨(some 5), none, .move (.t 13)⟩] (some [4, 5]))
  .ret)
  .skip)))
 (.seq (.seq (.ops [⟨(some 14), none, .fieldAddr 0 (.t 3)⟩,
   ⟨(some 15), none, .load false 1 (.t 14)⟩,
   ⟨(some 16), none, .bin .eql 3 (.t 15) (.c (.int .i64 2))⟩] (some [0, 3, 16]))
 (.cond (.t 16)
  (.seq (.opsd [(0, 0, ⟨(some 17), none, .move (.t 0)⟩),
    (1, 1, ⟨(some 18), none, .nilCheck (.t 17)⟩),
    (2, 3, ⟨(some 19), none, .fieldAddr 1 (.t 18)⟩),
    (3, 7, ⟨(some 20), none, .load false 1 (.t 19)⟩),
    (4, 0, ⟨(some 21), none, .fieldAddr 2 (.t 3)⟩),
    (5, 16, ⟨(some 22), none, .load false 1 (.t 21)⟩),
    (6, 63, ⟨(some 23), none, .indexAddr 2 (.t 20) (.t 22)⟩),
    (7, 0, ⟨(some 24), none, .fieldAddr 4 (.t 3)⟩),
    (8, 128, ⟨(some 25), none, .load false 1 (.t 24)⟩),
    (12, 0, ⟨(some 29), none, .fieldAddr 3 (.t 3)⟩),
    (13, 4096, ⟨(some 30), none, .load false 1 (.t 29)⟩),
    (9, 511, ⟨(some 26), none, .call (.c (.func (.func 37) #[] #[])) [(.t 23), (.t 25)]⟩),
    (10, 1023, ⟨(some 27), none, .nilCheck (.t 26)⟩),
    (11, 2047, ⟨(some 28), none, .load false 1 (.t 27)⟩),
    (14, 13311, ⟨(some 31), none, .call (.c (.func (.func 38) #[] #[])) [(.t 30)]⟩),
    (15, 32767, ⟨(some 32), none, .bin .or 76 (.t 28) (.t 31)⟩),
    (16, 65535, ⟨(some 33), none, .nilCheck (.t 26)⟩),
    (17, 131071, ⟨none, none, .store 1 (.t 33) (.t 32)⟩)] (some [3]))
  (.seq (.ops [⟨(some 34), none, .fieldAddr 3 (.t 3)⟩,
    ⟨(some 35), none, .load false 1 (.t 34)⟩,
    ⟨(some 4), none, .move (.t 35)⟩,
    ⟨(some 5), none, .move (.c (.int .i64 0))⟩] (some [4, 5]))
  .ret))
  .skip))
 (.seq (.ops [⟨(some 36), none, .move (.t 0)⟩,
   ⟨(some 37), none, .nilCheck (.t 36)⟩,
   ⟨(some 38), none, .fieldAddr 0 (.t 37)⟩,
   ⟨(some 39), none, .load false 1 (.t 38)⟩,
   ⟨(some 40), none, .bin .add 3 (.t 39) (.c (.int .i64 1))⟩,
   ⟨(some 41), none, .nilCheck (.t 36)⟩,
   ⟨(some 42), none, .fieldAddr 0 (.t 41)⟩,
   ⟨none, none, .store 1 (.t 42) (.t 40)⟩] (some [0, 3]))
 (.seq (.ops [⟨(some 43), none, .move (.t 0)⟩,
   ⟨(some 44), none, .nilCheck (.t 43)⟩,
   ⟨(some 45), none, .fieldAddr 0 (.t 44)⟩,
   ⟨(some 46), none, .load false 1 (.t 45)⟩,
   ⟨(some 47), none, .conv 3 30 (.t 46)⟩,
   ⟨(some 7), none, .move (.t 47)⟩] (some [0, 3, 7]))
 (.seq (.opsd [(0, 0, ⟨(some 48), none, .move (.t 0)⟩),
   (1, 1, ⟨(some 49), none, .nilCheck (.t 48)⟩),
   (2, 3, ⟨(some 50), none, .fieldAddr 1 (.t 49)⟩),
   (3, 7, ⟨(some 51), none, .load false 1 (.t 50)⟩),
   (4, 0, ⟨(some 52), none, .fieldAddr 1 (.t 3)⟩),
   (5, 16, ⟨(some 53), none, .load false 1 (.t 52)⟩),
   (6, 63, ⟨(some 54), none, .indexAddr 2 (.t 51) (.t 53)⟩),
   (7, 127, ⟨(some 55), none, .fieldAddr 0 (.t 54)⟩),
   (8, 255, ⟨(some 56), none, .load false 1 (.t 55)⟩),
   (9, 0, ⟨(some 57), none, .move (.t 7)⟩),
   (10, 512, ⟨(some 58), none, .call (.c (.func (.func 38) #[] #[])) [(.t 57)]⟩),
   (11, 2047, ⟨(some 59), none, .bin .or 76 (.t 56) (.t 58)⟩),
   (12, 4095, ⟨(some 60), none, .indexAddr 2 (.t 51) (.t 53)⟩),
   (13, 8191, ⟨(some 61), none, .fieldAddr 0 (.t 60)⟩),
   (14, 16383, ⟨none, none, .store 1 (.t 61) (.t 59)⟩)] (some [0, 3, 7]))
 (.seq (.opsd [(0, 0, ⟨(some 62), none, .move (.t 0)⟩),
   (1, 1, ⟨(some 63), none, .nilCheck (.t 62)⟩),
   (2, 3, ⟨(some 64), none, .fieldAddr 1 (.t 63)⟩),
   (3, 7, ⟨(some 65), none, .load false 1 (.t 64)⟩),
   (4, 0, ⟨(some 66), none, .fieldAddr 1 (.t 3)⟩),
   (5, 16, ⟨(some 67), none, .load false 1 (.t 66)⟩),
   (6, 63, ⟨(some 68), none, .indexAddr 2 (.t 65) (.t 67)⟩),
   (7, 127, ⟨(some 69), none, .fieldAddr 1 (.t 68)⟩),
   (8, 255, ⟨(some 70), none, .load false 1 (.t 69)⟩),
   (9, 0, ⟨(some 71), none, .move (.t 7)⟩),
   (10, 512, ⟨(some 72), none, .call (.c (.func (.func 38) #[] #[])) [(.t 71)]⟩),
   (11, 2047, ⟨(some 73), none, .bin .or 76 (.t 70) (.t 72)⟩),
   (12, 4095, ⟨(some 74), none, .indexAddr 2 (.t 65) (.t 67)⟩),
   (13, 8191, ⟨(some 75), none, .fieldAddr 1 (.t 74)⟩),
   (14, 16383, ⟨none, none, .store 1 (.t 75) (.t 73)⟩)] (some [7]))
 (.seq (.ops [⟨(some 76), none, .move (.t 7)⟩,
   ⟨(some 4), none, .move (.t 76)⟩,
   ⟨(some 5), none, .move (.c (.int .i64 0))⟩] (some [4, 5]))
 .ret)))))))), [.tmp 4, .tmp 5]⟩

theorem is11 : FnIs Try.prog 11 x11 := ⟨Try.f11, _, Try.func11, by kernel_rfl, rfl, by kernel_rfl, by decide, by kernel_rfl⟩

/-- cloisonne/cloisonnelaw28.few -/
def x12 : XDecl := .code ⟨1, 
 (.seq (.ops [⟨(some 2), none, .move (.c (.bool false))⟩] (some [0]))
 (.seq (.seq (.ops [⟨(some 3), none, .move (.c (.int .i64 0))⟩] (some [0, 3]))
 (.block 0
  (.loop
   (.seq (.seq (.ops [⟨(some 4), none, .move (.t 3)⟩,
     ⟨(some 5), none, .move (.t 0)⟩,
     ⟨(some 6), none, .len (.t 5)⟩,
     ⟨(some 7), none, .bin .lss 3 (.t 4) (.t 6)⟩] (some [0, 3, 7]))
   (.cond (.t 7)
    .skip
    (.exit 0)))
   (.seq (.block 1
    (.seq (.ops [⟨(some 10), none, .move (.t 0)⟩,
      ⟨(some 11), none, .move (.t 3)⟩,
      ⟨(some 12), none, .indexAddr 1 (.t 10) (.t 11)⟩,
      ⟨(some 13), none, .load false 1 (.t 12)⟩,
      ⟨(some 14), none, .bin .gtr 30 (.t 13) (.c (.int .u64 8))⟩] (some [0, 3, 14]))
    (.cond (.t 14)
     (.seq (.ops [⟨(some 2), none, .move (.c (.bool false))⟩] (some [2]))
     .ret)
     .skip)))
   (.ops [⟨(some 8), none, .move (.t 3)⟩,
     ⟨(some 9), none, .bin .add 3 (.t 8) (.c (.int .i64 1))⟩,
     ⟨(some 3), none, .move (.t 9)⟩] (some [0, 3])))))))
 (.seq (.ops [⟨(some 15), none, .move (.t 0)⟩,
   ⟨(some 16), none, .call (.c (.func (.func 23) #[] #[])) [(.t 15)]⟩,
   ⟨(some 2), none, .move (.t 16)⟩] (some [2]))
 .ret))), [.tmp 2]⟩

theorem is12 : FnIs Try.prog 12 x12 := ⟨Try.f12, _, Try.func12, by kernel_rfl, rfl, by kernel_rfl, by decide, by kernel_rfl⟩

/-- cloisonne/flow.Way -/
def x13 : XDecl := .code ⟨4, 
 (.seq (.ops [⟨(some 8), none, .move (.c (.slice none 0 0))⟩,
   ⟨(some 9), none, .move (.c (.int .i64 0))⟩] (some [0, 1, 2, 3]))
 (.seq (.block 0
  (.seq (.ops [⟨(some 16), none, .move (.t 0)⟩,
    ⟨(some 17), none, .isNil .ptr false (.t 16)⟩,
    ⟨(some 15), none, .move (.t 17)⟩] (some [0, 1, 2, 3, 15]))
  (.cond (.t 15)
   (.seq (.ops [⟨(some 8), none, .move (.c (.slice none 0 0))⟩,
     ⟨(some 9), none, .move (.c (.int .i64 2))⟩] (some [8, 9]))
   .ret)
   (.seq (.ops [⟨(some 19), none, .move (.t 0)⟩,
     ⟨(some 20), none, .move (.t 1)⟩,
     ⟨(some 21), none, .call (.c (.func (.func 29) #[] #[])) [(.t 19), (.t 20)]⟩,
     ⟨(some 22), none, .un .not (.t 21)⟩,
     ⟨(some 23), none, .move (.t 22)⟩,
     ⟨(some 24), (some (23, false)), .move (.t 2)⟩,
     ⟨(some 25), (some (23, false)), .call (.c (.func (.func 30) #[] #[])) [(.t 24)]⟩,
     ⟨(some 26), (some (23, false)), .un .not (.t 25)⟩,
     ⟨(some 27), none, .pick (.t 23) (.c (.bool true)) (.t 26)⟩,
     ⟨(some 28), none, .move (.t 27)⟩,
     ⟨(some 29), (some (28, false)), .move (.t 3)⟩,
     ⟨(some 30), (some (28, false)), .call (.c (.func (.func 30) #[] #[])) [(.t 29)]⟩,
     ⟨(some 31), (some (28, false)), .un .not (.t 30)⟩,
     ⟨(some 32), none, .pick (.t 28) (.c (.bool true)) (.t 31)⟩,
     ⟨(some 18), none, .move (.t 32)⟩] (some [0, 1, 2, 3, 18]))
   (.cond (.t 18)
    (.seq (.ops [⟨(some 8), none, .move (.c (.slice none 0 0))⟩,
      ⟨(some 9), none, .move (.c (.int .i64 1))⟩] (some [8, 9]))
    .ret)
    (.seq (.ops [⟨(some 34), none, .move (.t 0)⟩,
      ⟨(some 35), none, .move (.t 1)⟩,
      ⟨(some 36), none, .move (.t 2)⟩,
      ⟨(some 37), none, .move (.t 3)⟩,
      ⟨(some 38), none, .call (.c (.func (.func 10) #[] #[])) [(.t 34), (.t 35), (.t 36), (.t 37)]⟩,
      ⟨(some 39), none, .un .not (.t 38)⟩,
      ⟨(some 33), none, .move (.t 39)⟩] (some [2, 3, 33]))
    (.cond (.t 33)
     (.seq (.ops [⟨(some 8), none, .move (.c (.slice none 0 0))⟩,
       ⟨(some 9), none, .move (.c (.int .i64 7))⟩] (some [8, 9]))
     .ret)
     .skip)))))))
 (.seq (.ops [⟨(some 10), none, .move (.c (.slice none 0 0))⟩] (some [2, 3, 10]))
 (.seq (.seq (.ops [⟨(some 40), none, .move (.t 2)⟩,
   ⟨(some 41), none, .move (.t 3)⟩,
   ⟨(some 42), none, .call (.c (.func (.func 34) #[] #[])) [(.t 40), (.t 41)]⟩,
   ⟨(some 43), none, .len (.t 42)⟩,
   ⟨(some 44), none, .move (.c (.int .i64 0))⟩] (some [2, 3, 10, 42, 43, 44]))
 (.block 1
  (.loop
   (.seq (.ops [⟨(some 45), none, .bin .lss 3 (.t 44) (.t 43)⟩] (some [2, 3, 10, 42, 43, 44, 45]))
   (.seq (.cond (.t 45)
    .skip
    (.exit 1))
   (.seq (.block 2
    (.seq (.ops [⟨(some 46), none, .indexAddr 1 (.t 42) (.t 44)⟩,
      ⟨(some 47), none, .load false 1 (.t 46)⟩,
      ⟨(some 12), none, .move (.t 47)⟩] (some [2, 3, 10, 12, 42, 43, 44]))
    (.ops [⟨(some 48), none, .move (.t 10)⟩,
      ⟨(some 49), none, .move (.t 12)⟩,
      ⟨(some 50), none, .build [(.int .i64 0), (.int .i64 0), (.slice none 0 0), (.int .u64 0), (.bool false), (.int .i64 0), (.string .empty), (.bool false), (.string .empty), (.int .u64 0), (.string .empty), (.string .empty), (.int .i64 0), (.int .i64 0), (.slice none 0 0)] [(0, 1), (1, 1), (2, 1), (3, 1), (4, 1), (5, 1), (6, 1), (7, 3), (10, 3), (13, 1), (14, 1)] [(0, (.c (.int .i64 4))), (3, (.t 49))]⟩,
      ⟨(some 51), none, .buildSlice [(.int .i64 0), (.int .i64 0), (.slice none 0 0), (.int .u64 0), (.bool false), (.int .i64 0), (.string .empty), (.bool false), (.string .empty), (.int .u64 0), (.string .empty), (.string .empty), (.int .i64 0), (.int .i64 0), (.slice none 0 0)] 15 1 [(0, (.t 50))]⟩,
      ⟨(some 52), none, .append 15 184 [(.int .i64 0), (.int .i64 0), (.slice none 0 0), (.int .u64 0), (.bool false), (.int .i64 0), (.string .empty), (.bool false), (.string .empty), (.int .u64 0), (.string .empty), (.string .empty), (.int .i64 0), (.int .i64 0), (.slice none 0 0)] (.t 48) (.t 51)⟩,
      ⟨(some 10), none, .move (.t 52)⟩] (some [2, 3, 10, 42, 43, 44]))))
   (.ops [⟨(some 53), none, .bin .add 3 (.t 44) (.c (.int .i64 1))⟩,
     ⟨(some 44), none, .move (.t 53)⟩] (some [2, 3, 10, 42, 43, 44]))))))))
 (.seq (.seq (.ops [⟨(some 54), none, .move (.t 3)⟩,
   ⟨(some 55), none, .move (.t 2)⟩,
   ⟨(some 56), none, .call (.c (.func (.func 34) #[] #[])) [(.t 54), (.t 55)]⟩,
   ⟨(some 57), none, .len (.t 56)⟩,
   ⟨(some 58), none, .move (.c (.int .i64 0))⟩] (some [10, 56, 57, 58]))
 (.block 3
  (.loop
   (.seq (.ops [⟨(some 59), none, .bin .lss 3 (.t 58) (.t 57)⟩] (some [10, 56, 57, 58, 59]))
   (.seq (.cond (.t 59)
    .skip
    (.exit 3))
   (.seq (.block 4
    (.seq (.ops [⟨(some 60), none, .indexAddr 1 (.t 56) (.t 58)⟩,
      ⟨(some 61), none, .load false 1 (.t 60)⟩,
      ⟨(some 14), none, .move (.t 61)⟩] (some [10, 14, 56, 57, 58]))
    (.ops [⟨(some 62), none, .move (.t 10)⟩,
      ⟨(some 63), none, .move (.t 14)⟩,
      ⟨(some 64), none, .buildSlice [(.int .u64 0)] 1 1 [(0, (.t 63))]⟩,
      ⟨(some 65), none, .build [(.int .i64 0), (.int .i64 0), (.slice none 0 0), (.int .u64 0), (.bool false), (.int .i64 0), (.string .empty), (.bool false), (.string .empty), (.int .u64 0), (.string .empty), (.string .empty), (.int .i64 0), (.int .i64 0), (.slice none 0 0)] [(0, 1), (1, 1), (2, 1), (3, 1), (4, 1), (5, 1), (6, 1), (7, 3), (10, 3), (13, 1), (14, 1)] [(0, (.c (.int .i64 3))), (2, (.t 64))]⟩,
      ⟨(some 66), none, .buildSlice [(.int .i64 0), (.int .i64 0), (.slice none 0 0), (.int .u64 0), (.bool false), (.int .i64 0), (.string .empty), (.bool false), (.string .empty), (.int .u64 0), (.string .empty), (.string .empty), (.int .i64 0), (.int .i64 0), (.slice none 0 0)] 15 1 [(0, (.t 65))]⟩,
      ⟨(some 67), none, .append 15 184 [(.int .i64 0), (.int .i64 0), (.slice none 0 0), (.int .u64 0), (.bool false), (.int .i64 0), (.string .empty), (.bool false), (.string .empty), (.int .u64 0), (.string .empty), (.string .empty), (.int .i64 0), (.int .i64 0), (.slice none 0 0)] (.t 62) (.t 66)⟩,
      ⟨(some 10), none, .move (.t 67)⟩] (some [10, 56, 57, 58]))))
   (.ops [⟨(some 68), none, .bin .add 3 (.t 58) (.c (.int .i64 1))⟩,
     ⟨(some 58), none, .move (.t 68)⟩] (some [10, 56, 57, 58]))))))))
 (.seq (.ops [⟨(some 69), none, .move (.t 10)⟩,
   ⟨(some 8), none, .move (.t 69)⟩,
   ⟨(some 9), none, .move (.c (.int .i64 0))⟩] (some [8, 9]))
 .ret)))))), [.tmp 8, .tmp 9]⟩

theorem is13 : FnIs Try.prog 13 x13 := ⟨Try.f13, _, Try.func13, by kernel_rfl, rfl, by kernel_rfl, by decide, by kernel_rfl⟩

/-- cloisonne/flow.May -/
def x14 : XDecl := .code ⟨4, 
 (.seq (.ops [⟨(some 8), none, .move (.c (.bool false))⟩] (some [0, 1, 2, 3]))
 (.seq (.ops [⟨(some 9), none, .move (.t 0)⟩,
   ⟨(some 10), none, .move (.t 1)⟩,
   ⟨(some 11), none, .move (.t 2)⟩,
   ⟨(some 12), none, .call (.c (.func (.func 35) #[] #[])) [(.t 9), (.t 10), (.c (.slice none 0 0)), (.t 11)]⟩,
   ⟨(some 13), none, .move (.t 12)⟩,
   ⟨(some 14), (some (13, true)), .move (.t 0)⟩,
   ⟨(some 15), (some (13, true)), .move (.t 1)⟩,
   ⟨(some 16), (some (13, true)), .move (.t 2)⟩,
   ⟨(some 17), (some (13, true)), .move (.t 3)⟩,
   ⟨(some 18), (some (13, true)), .call (.c (.func (.func 10) #[] #[])) [(.t 14), (.t 15), (.t 16), (.t 17)]⟩,
   ⟨(some 19), none, .pick (.t 13) (.t 18) (.c (.bool false))⟩,
   ⟨(some 8), none, .move (.t 19)⟩] (some [8]))
 .ret)), [.tmp 8]⟩

theorem is14 : FnIs Try.prog 14 x14 := ⟨Try.f14, _, Try.func14, by kernel_rfl, rfl, by kernel_rfl, by decide, by kernel_rfl⟩

/-- cloisonne/cloisonneref28.Spread -/
def x15 : XDecl := .code ⟨3, 
 (.seq (.ops [⟨(some 6), none, .move (.c (.slice none 0 0))⟩,
   ⟨(some 7), none, .move (.c (.slice none 0 0))⟩] (some [0, 1, 2]))
 (.seq (.ops [⟨(some 15), none, .move (.t 2)⟩,
   ⟨(some 16), none, .buildSlice [(.slice none 0 0)] 1 1 [(0, (.t 15))]⟩,
   ⟨(some 8), none, .move (.t 16)⟩] (some [0, 1, 8]))
 (.seq (.ops [⟨(some 17), none, .buildSlice [(.int .i64 0)] 1 1 [(0, (.c (.int .i64 0)))]⟩,
   ⟨(some 9), none, .move (.t 17)⟩] (some [0, 1, 8, 9]))
 (.seq (.seq (.ops [⟨(some 10), none, .move (.c (.int .i64 0))⟩] (some [0, 1, 8, 9, 10]))
 (.block 0
  (.loop
   (.seq (.seq (.ops [⟨(some 18), none, .move (.t 10)⟩,
     ⟨(some 19), none, .move (.t 8)⟩,
     ⟨(some 20), none, .len (.t 19)⟩,
     ⟨(some 21), none, .bin .lss 3 (.t 18) (.t 20)⟩] (some [0, 1, 8, 9, 10, 21]))
   (.cond (.t 21)
    .skip
    (.exit 0)))
   (.seq (.block 1
    (.seq (.ops [⟨(some 11), none, .move (.c (.int .u64 1))⟩] (some [0, 1, 8, 9, 10, 11]))
    (.block 2
     (.loop
      (.seq (.seq (.ops [⟨(some 24), none, .move (.t 11)⟩,
        ⟨(some 25), none, .bin .leq 30 (.t 24) (.c (.int .u64 8))⟩] (some [0, 1, 8, 9, 10, 11, 25]))
      (.cond (.t 25)
       .skip
       (.exit 2)))
      (.seq (.block 3
       (.seq (.ops [⟨(some 28), none, .move (.t 8)⟩,
         ⟨(some 29), none, .move (.t 10)⟩,
         ⟨(some 30), none, .indexAddr 1 (.t 28) (.t 29)⟩,
         ⟨(some 31), none, .load false 1 (.t 30)⟩,
         ⟨(some 32), none, .move (.t 11)⟩,
         ⟨(some 33), none, .call (.c (.func (.func 22) #[] #[])) [(.t 31), (.t 32)]⟩,
         ⟨(some 12), none, .move (.t 33)⟩] (some [0, 1, 8, 9, 10, 11, 12]))
       (.seq (.ops [⟨(some 34), none, .buildSlice [(.int .u64 0)] 1 0 []⟩,
         ⟨(some 13), none, .move (.t 34)⟩] (some [0, 1, 8, 9, 10, 11, 12, 13]))
       (.seq (.seq (.ops [⟨(some 35), none, .move (.t 12)⟩,
         ⟨(some 36), none, .move (.t 35)⟩,
         ⟨(some 37), (some (36, true)), .move (.t 0)⟩,
         ⟨(some 38), (some (36, true)), .move (.t 1)⟩,
         ⟨(some 39), (some (36, true)), .move (.t 11)⟩,
         ⟨(some 40), (some (36, true)), .call (.c (.func (.func 21) #[] #[])) [(.t 37), (.t 38), (.t 39), (.c (.bool true))]⟩,
         ⟨(some 41), none, .pick (.t 36) (.t 40) (.c (.bool false))⟩] (some [0, 1, 8, 9, 10, 11, 12, 13, 41]))
       (.cond (.t 41)
        (.seq (.ops [⟨(some 14), none, .move (.c (.int .i64 0))⟩] (some [0, 1, 8, 9, 10, 11, 13, 14]))
        (.block 4
         (.loop
          (.seq (.seq (.ops [⟨(some 42), none, .move (.t 14)⟩,
            ⟨(some 43), none, .move (.t 8)⟩,
            ⟨(some 44), none, .move (.t 10)⟩,
            ⟨(some 45), none, .indexAddr 1 (.t 43) (.t 44)⟩,
            ⟨(some 46), none, .load false 1 (.t 45)⟩,
            ⟨(some 47), none, .len (.t 46)⟩,
            ⟨(some 48), none, .bin .lss 3 (.t 42) (.t 47)⟩] (some [0, 1, 8, 9, 10, 11, 13, 14, 48]))
          (.cond (.t 48)
           .skip
           (.exit 4)))
          (.seq (.block 5
           (.seq (.ops [⟨(some 51), none, .move (.t 8)⟩,
             ⟨(some 52), none, .move (.t 10)⟩,
             ⟨(some 53), none, .indexAddr 1 (.t 51) (.t 52)⟩,
             ⟨(some 54), none, .load false 1 (.t 53)⟩,
             ⟨(some 55), none, .move (.t 14)⟩,
             ⟨(some 56), none, .indexAddr 1 (.t 54) (.t 55)⟩,
             ⟨(some 57), none, .load false 1 (.t 56)⟩,
             ⟨(some 58), none, .move (.t 11)⟩,
             ⟨(some 59), none, .bin .neq 30 (.t 57) (.t 58)⟩] (some [0, 1, 8, 9, 10, 11, 13, 14, 59]))
           (.cond (.t 59)
            (.ops [⟨(some 60), none, .move (.t 13)⟩,
              ⟨(some 61), none, .move (.t 8)⟩,
              ⟨(some 62), none, .move (.t 10)⟩,
              ⟨(some 63), none, .indexAddr 1 (.t 61) (.t 62)⟩,
              ⟨(some 64), none, .load false 1 (.t 63)⟩,
              ⟨(some 65), none, .move (.t 14)⟩,
              ⟨(some 66), none, .indexAddr 1 (.t 64) (.t 65)⟩,
              ⟨(some 67), none, .load false 1 (.t 66)⟩,
              ⟨(some 68), none, .buildSlice [(.int .u64 0)] 1 1 [(0, (.t 67))]⟩,
              ⟨(some 69), none, .append 1 8 [(.int .u64 0)] (.t 60) (.t 68)⟩,
              ⟨(some 13), none, .move (.t 69)⟩] (some [0, 1, 8, 9, 10, 11, 13, 14]))
            .skip)))
          (.ops [⟨(some 49), none, .move (.t 14)⟩,
            ⟨(some 50), none, .bin .add 3 (.t 49) (.c (.int .i64 1))⟩,
            ⟨(some 14), none, .move (.t 50)⟩] (some [0, 1, 8, 9, 10, 11, 13, 14])))))))
        (.seq (.ops [⟨(some 70), none, .move (.t 12)⟩,
          ⟨(some 71), none, .un .not (.t 70)⟩,
          ⟨(some 72), none, .move (.t 71)⟩,
          ⟨(some 73), (some (72, true)), .move (.t 0)⟩,
          ⟨(some 74), (some (72, true)), .move (.t 1)⟩,
          ⟨(some 75), (some (72, true)), .move (.t 11)⟩,
          ⟨(some 76), (some (72, true)), .call (.c (.func (.func 21) #[] #[])) [(.t 73), (.t 74), (.t 75), (.c (.bool false))]⟩,
          ⟨(some 77), none, .pick (.t 72) (.t 76) (.c (.bool false))⟩] (some [0, 1, 8, 9, 10, 11, 77]))
        (.cond (.t 77)
         (.ops [⟨(some 78), none, .move (.t 8)⟩,
           ⟨(some 79), none, .move (.t 10)⟩,
           ⟨(some 80), none, .indexAddr 1 (.t 78) (.t 79)⟩,
           ⟨(some 81), none, .load false 1 (.t 80)⟩,
           ⟨(some 82), none, .move (.t 11)⟩,
           ⟨(some 83), none, .call (.c (.func (.func 39) #[] #[])) [(.t 81), (.t 82)]⟩,
           ⟨(some 13), none, .move (.t 83)⟩] (some [0, 1, 8, 9, 10, 11, 13]))
         (.exit 3)))))
       (.seq (.seq (.ops [⟨(some 84), none, .move (.t 13)⟩,
         ⟨(some 85), none, .len (.t 84)⟩,
         ⟨(some 86), none, .bin .gtr 3 (.t 85) (.c (.int .i64 6))⟩,
         ⟨(some 87), none, .move (.t 86)⟩,
         ⟨(some 88), (some (87, false)), .move (.t 8)⟩,
         ⟨(some 89), (some (87, false)), .move (.t 13)⟩,
         ⟨(some 90), (some (87, false)), .call (.c (.func (.func 16) #[] #[])) [(.t 88), (.t 89)]⟩,
         ⟨(some 91), (some (87, false)), .bin .geq 3 (.t 90) (.c (.int .i64 0))⟩,
         ⟨(some 92), none, .pick (.t 87) (.c (.bool true)) (.t 91)⟩] (some [0, 1, 8, 9, 10, 11, 13, 92]))
       (.cond (.t 92)
        (.exit 3)
        .skip))
       (.seq (.ops [⟨(some 93), none, .move (.t 8)⟩,
         ⟨(some 94), none, .move (.t 13)⟩,
         ⟨(some 95), none, .buildSlice [(.slice none 0 0)] 1 1 [(0, (.t 94))]⟩,
         ⟨(some 96), none, .append 1 24 [(.slice none 0 0)] (.t 93) (.t 95)⟩,
         ⟨(some 8), none, .move (.t 96)⟩] (some [0, 1, 8, 9, 10, 11]))
       (.ops [⟨(some 97), none, .move (.t 9)⟩,
         ⟨(some 98), none, .move (.t 9)⟩,
         ⟨(some 99), none, .move (.t 10)⟩,
         ⟨(some 100), none, .indexAddr 1 (.t 98) (.t 99)⟩,
         ⟨(some 101), none, .load false 1 (.t 100)⟩,
         ⟨(some 102), none, .bin .add 3 (.t 101) (.c (.int .i64 1))⟩,
         ⟨(some 103), none, .buildSlice [(.int .i64 0)] 1 1 [(0, (.t 102))]⟩,
         ⟨(some 104), none, .append 1 8 [(.int .i64 0)] (.t 97) (.t 103)⟩,
         ⟨(some 9), none, .move (.t 104)⟩] (some [0, 1, 8, 9, 10, 11]))))))))
      (.ops [⟨(some 26), none, .move (.t 11)⟩,
        ⟨(some 27), none, .bin .add 30 (.t 26) (.c (.int .u64 1))⟩,
        ⟨(some 11), none, .move (.t 27)⟩] (some [0, 1, 8, 9, 10, 11]))))))))
   (.ops [⟨(some 22), none, .move (.t 10)⟩,
     ⟨(some 23), none, .bin .add 3 (.t 22) (.c (.int .i64 1))⟩,
     ⟨(some 10), none, .move (.t 23)⟩] (some [0, 1, 8, 9, 10])))))))
 (.seq (.ops [⟨(some 105), none, .move (.t 8)⟩,
   ⟨(some 106), none, .move (.t 9)⟩,
   ⟨(some 6), none, .move (.t 105)⟩,
   ⟨(some 7), none, .move (.t 106)⟩] (some [6, 7]))
 .ret))))), [.tmp 6, .tmp 7]⟩

theorem is15 : FnIs Try.prog 15 x15 := ⟨Try.f15, _, Try.func15, by kernel_rfl, rfl, by kernel_rfl, by decide, by kernel_rfl⟩

/-- cloisonne/cloisonneref28.At -/
def x16 : XDecl := .code ⟨2, 
 (.seq (.ops [⟨(some 4), none, .move (.c (.int .i64 0))⟩] (some [0, 1]))
 (.seq (.seq (.ops [⟨(some 5), none, .move (.c (.int .i64 0))⟩] (some [0, 1, 5]))
 (.block 0
  (.loop
   (.seq (.seq (.ops [⟨(some 6), none, .move (.t 5)⟩,
     ⟨(some 7), none, .move (.t 0)⟩,
     ⟨(some 8), none, .len (.t 7)⟩,
     ⟨(some 9), none, .bin .lss 3 (.t 6) (.t 8)⟩] (some [0, 1, 5, 9]))
   (.cond (.t 9)
    .skip
    (.exit 0)))
   (.seq (.block 1
    (.seq (.ops [⟨(some 12), none, .move (.t 0)⟩,
      ⟨(some 13), none, .move (.t 5)⟩,
      ⟨(some 14), none, .indexAddr 1 (.t 12) (.t 13)⟩,
      ⟨(some 15), none, .load false 1 (.t 14)⟩,
      ⟨(some 16), none, .move (.t 1)⟩,
      ⟨(some 17), none, .call (.c (.func (.func 40) #[] #[])) [(.t 15), (.t 16)]⟩] (some [0, 1, 5, 17]))
    (.cond (.t 17)
     (.seq (.ops [⟨(some 18), none, .move (.t 5)⟩,
       ⟨(some 4), none, .move (.t 18)⟩] (some [4]))
     .ret)
     .skip)))
   (.ops [⟨(some 10), none, .move (.t 5)⟩,
     ⟨(some 11), none, .bin .add 3 (.t 10) (.c (.int .i64 1))⟩,
     ⟨(some 5), none, .move (.t 11)⟩] (some [0, 1, 5])))))))
 (.seq (.ops [⟨(some 4), none, .move (.c (.int .i64 (-1)))⟩] (some [4]))
 .ret))), [.tmp 4]⟩

theorem is16 : FnIs Try.prog 16 x16 := ⟨Try.f16, _, Try.func16, by kernel_rfl, rfl, by kernel_rfl, by decide, by kernel_rfl⟩

/-- cloisonne/cloisonneref28.May -/
def x17 : XDecl := .code ⟨4, 
 (.seq (.ops [⟨(some 8), none, .move (.c (.bool false))⟩] (some [0, 1, 2, 3]))
 (.seq (.ops [⟨(some 12), none, .move (.t 0)⟩,
   ⟨(some 13), none, .move (.t 1)⟩,
   ⟨(some 14), none, .move (.t 2)⟩,
   ⟨(some 15), none, .call (.c (.func (.func 15) #[] #[])) [(.t 12), (.t 13), (.t 14)]⟩,
   ⟨(some 11), none, .move (.t 15)⟩,
   ⟨(some 16), none, .extract (.t 11) 0⟩,
   ⟨(some 17), none, .extract (.t 11) 1⟩,
   ⟨(some 9), none, .move (.t 16)⟩,
   ⟨(some 10), none, .move (.t 17)⟩] (some [0, 1, 2, 3, 9]))
 (.seq (.ops [⟨(some 18), none, .move (.t 0)⟩,
   ⟨(some 19), none, .move (.t 1)⟩,
   ⟨(some 20), none, .buildSlice [(.int .u64 0)] 1 0 []⟩,
   ⟨(some 21), none, .move (.t 2)⟩,
   ⟨(some 22), none, .call (.c (.func (.func 41) #[] #[])) [(.t 18), (.t 19), (.t 20), (.t 21)]⟩,
   ⟨(some 23), none, .move (.t 22)⟩,
   ⟨(some 24), (some (23, true)), .move (.t 9)⟩,
   ⟨(some 25), (some (23, true)), .move (.t 3)⟩,
   ⟨(some 26), (some (23, true)), .call (.c (.func (.func 16) #[] #[])) [(.t 24), (.t 25)]⟩,
   ⟨(some 27), (some (23, true)), .bin .geq 3 (.t 26) (.c (.int .i64 0))⟩,
   ⟨(some 28), none, .pick (.t 23) (.t 27) (.c (.bool false))⟩,
   ⟨(some 8), none, .move (.t 28)⟩] (some [8]))
 .ret))), [.tmp 8]⟩

theorem is17 : FnIs Try.prog 17 x17 := ⟨Try.f17, _, Try.func17, by kernel_rfl, rfl, by kernel_rfl, by decide, by kernel_rfl⟩

/-- cloisonne/flow.Flows -/
def x18 : XDecl := .code ⟨2, 
 (.seq (.ops [⟨(some 4), none, .move (.c (.slice none 0 0))⟩,
   ⟨(some 5), none, .move (.c (.int .i64 0))⟩] (some [0, 1]))
 (.seq (.ops [⟨(some 6), none, .move (.c (.func (.func 42) #[] #[]))⟩] (some [0, 1, 6]))
 (.seq (.block 0
  (.seq (.ops [⟨(some 17), none, .move (.t 0)⟩,
    ⟨(some 18), none, .isNil .ptr false (.t 17)⟩,
    ⟨(some 16), none, .move (.t 18)⟩] (some [0, 1, 6, 16]))
  (.cond (.t 16)
   (.seq (.ops [⟨(some 4), none, .move (.c (.slice none 0 0))⟩,
     ⟨(some 5), none, .move (.c (.int .i64 2))⟩] (some [4, 5]))
   .ret)
   (.seq (.ops [⟨(some 20), none, .move (.t 1)⟩,
     ⟨(some 21), none, .len (.t 20)⟩,
     ⟨(some 22), none, .bin .gtr 3 (.t 21) (.c (.int .i64 8))⟩,
     ⟨(some 23), none, .move (.t 22)⟩,
     ⟨(some 24), (some (23, false)), .move (.t 1)⟩,
     ⟨(some 25), (some (23, false)), .move (.t 6)⟩,
     ⟨(some 26), (some (23, false)), .call (.c (.func (.func 43) #[] #[])) [(.t 24), (.t 25)]⟩,
     ⟨(some 27), none, .pick (.t 23) (.c (.bool true)) (.t 26)⟩,
     ⟨(some 19), none, .move (.t 27)⟩] (some [0, 1, 19]))
   (.cond (.t 19)
    (.seq (.ops [⟨(some 4), none, .move (.c (.slice none 0 0))⟩,
      ⟨(some 5), none, .move (.c (.int .i64 1))⟩] (some [4, 5]))
    .ret)
    .skip)))))
 (.seq (.ops [⟨(some 7), none, .move (.c (.slice none 0 0))⟩] (some [0, 1, 7]))
 (.seq (.seq (.ops [⟨(some 28), none, .move (.t 1)⟩,
   ⟨(some 29), none, .len (.t 28)⟩,
   ⟨(some 30), none, .move (.c (.int .i64 0))⟩] (some [0, 1, 7, 28, 29, 30]))
 (.block 1
  (.loop
   (.seq (.ops [⟨(some 31), none, .bin .lss 3 (.t 30) (.t 29)⟩] (some [0, 1, 7, 28, 29, 30, 31]))
   (.seq (.cond (.t 31)
    .skip
    (.exit 1))
   (.seq (.block 2
    (.seq (.ops [⟨(some 32), none, .move (.t 30)⟩,
      ⟨(some 33), none, .indexAddr 1 (.t 28) (.t 30)⟩,
      ⟨(some 34), none, .load false 1 (.t 33)⟩,
      ⟨(some 8), none, .move (.t 32)⟩,
      ⟨(some 9), none, .move (.t 34)⟩] (some [0, 1, 7, 8, 9, 28, 29, 30]))
    (.seq (.ops [⟨(some 35), none, .move (.t 1)⟩,
      ⟨(some 36), none, .len (.t 35)⟩,
      ⟨(some 37), none, .makeSlice [(.bool false)] 1 (.t 36) (.t 36)⟩,
      ⟨(some 10), none, .move (.t 37)⟩] (some [0, 1, 7, 8, 9, 10, 28, 29, 30]))
    (.seq (.seq (.ops [⟨(some 38), none, .move (.t 1)⟩,
      ⟨(some 39), none, .len (.t 38)⟩,
      ⟨(some 40), none, .move (.c (.int .i64 0))⟩] (some [0, 1, 7, 8, 9, 10, 28, 29, 30, 38, 39, 40]))
    (.block 3
     (.loop
      (.seq (.ops [⟨(some 41), none, .bin .lss 3 (.t 40) (.t 39)⟩] (some [0, 1, 7, 8, 9, 10, 28, 29, 30, 38, 39, 40, 41]))
      (.seq (.cond (.t 41)
       .skip
       (.exit 3))
      (.seq (.block 4
       (.seq (.ops [⟨(some 42), none, .move (.t 40)⟩,
         ⟨(some 43), none, .indexAddr 1 (.t 38) (.t 40)⟩,
         ⟨(some 44), none, .load false 1 (.t 43)⟩,
         ⟨(some 11), none, .move (.t 42)⟩,
         ⟨(some 12), none, .move (.t 44)⟩] (some [0, 1, 7, 8, 9, 10, 11, 12, 28, 29, 30, 38, 39, 40]))
       (.ops [⟨(some 45), none, .move (.t 10)⟩,
         ⟨(some 46), none, .move (.t 11)⟩,
         ⟨(some 47), none, .move (.t 8)⟩,
         ⟨(some 48), none, .move (.t 11)⟩,
         ⟨(some 49), none, .bin .eql 3 (.t 47) (.t 48)⟩,
         ⟨(some 50), none, .move (.t 49)⟩,
         ⟨(some 51), (some (50, false)), .move (.t 0)⟩,
         ⟨(some 52), (some (50, false)), .move (.t 9)⟩,
         ⟨(some 53), (some (50, false)), .move (.t 12)⟩,
         ⟨(some 54), (some (50, false)), .call (.c (.func (.func 44) #[] #[])) [(.t 51), (.t 52), (.t 53)]⟩,
         ⟨(some 55), none, .pick (.t 50) (.c (.bool true)) (.t 54)⟩,
         ⟨(some 56), none, .indexAddr 1 (.t 45) (.t 46)⟩,
         ⟨none, none, .store 1 (.t 56) (.t 55)⟩] (some [0, 1, 7, 8, 9, 10, 28, 29, 30, 38, 39, 40]))))
      (.ops [⟨(some 57), none, .bin .add 3 (.t 40) (.c (.int .i64 1))⟩,
        ⟨(some 40), none, .move (.t 57)⟩] (some [0, 1, 7, 8, 9, 10, 28, 29, 30, 38, 39, 40]))))))))
    (.ops [⟨(some 58), none, .move (.t 7)⟩,
      ⟨(some 59), none, .move (.t 10)⟩,
      ⟨(some 60), none, .buildSlice [(.slice none 0 0)] 1 1 [(0, (.t 59))]⟩,
      ⟨(some 61), none, .append 1 24 [(.slice none 0 0)] (.t 58) (.t 60)⟩,
      ⟨(some 7), none, .move (.t 61)⟩] (some [0, 1, 7, 28, 29, 30]))))))
   (.ops [⟨(some 62), none, .bin .add 3 (.t 30) (.c (.int .i64 1))⟩,
     ⟨(some 30), none, .move (.t 62)⟩] (some [0, 1, 7, 28, 29, 30]))))))))
 (.seq (.seq (.ops [⟨(some 63), none, .move (.t 1)⟩,
   ⟨(some 64), none, .len (.t 63)⟩,
   ⟨(some 65), none, .move (.c (.int .i64 0))⟩] (some [1, 7, 64, 65]))
 (.block 5
  (.loop
   (.seq (.ops [⟨(some 66), none, .bin .lss 3 (.t 65) (.t 64)⟩] (some [1, 7, 64, 65, 66]))
   (.seq (.cond (.t 66)
    .skip
    (.exit 5))
   (.seq (.block 6
    (.seq (.ops [⟨(some 67), none, .move (.t 65)⟩,
      ⟨(some 13), none, .move (.t 67)⟩] (some [1, 7, 13, 64, 65]))
    (.seq (.ops [⟨(some 68), none, .move (.t 1)⟩,
      ⟨(some 69), none, .len (.t 68)⟩,
      ⟨(some 70), none, .move (.c (.int .i64 0))⟩] (some [1, 7, 13, 64, 65, 69, 70]))
    (.block 7
     (.loop
      (.seq (.ops [⟨(some 71), none, .bin .lss 3 (.t 70) (.t 69)⟩] (some [1, 7, 13, 64, 65, 69, 70, 71]))
      (.seq (.cond (.t 71)
       .skip
       (.exit 7))
      (.seq (.block 8
       (.seq (.ops [⟨(some 72), none, .move (.t 70)⟩,
         ⟨(some 14), none, .move (.t 72)⟩] (some [1, 7, 13, 14, 64, 65, 69, 70]))
       (.seq (.ops [⟨(some 73), none, .move (.t 1)⟩,
         ⟨(some 74), none, .len (.t 73)⟩,
         ⟨(some 75), none, .move (.c (.int .i64 0))⟩] (some [1, 7, 13, 14, 64, 65, 69, 70, 74, 75]))
       (.block 9
        (.loop
         (.seq (.ops [⟨(some 76), none, .bin .lss 3 (.t 75) (.t 74)⟩] (some [1, 7, 13, 14, 64, 65, 69, 70, 74, 75, 76]))
         (.seq (.cond (.t 76)
          .skip
          (.exit 9))
         (.seq (.block 10
          (.seq (.ops [⟨(some 77), none, .move (.t 75)⟩,
            ⟨(some 15), none, .move (.t 77)⟩] (some [1, 7, 13, 14, 15, 64, 65, 69, 70, 74, 75]))
          (.opsd [(0, 0, ⟨(some 78), none, .move (.t 7)⟩),
            (1, 0, ⟨(some 79), none, .move (.t 14)⟩),
            (2, 3, ⟨(some 80), none, .indexAddr 1 (.t 78) (.t 79)⟩),
            (3, 7, ⟨(some 81), none, .load false 1 (.t 80)⟩),
            (4, 0, ⟨(some 82), none, .move (.t 15)⟩),
            (5, 0, ⟨(some 83), none, .move (.t 7)⟩),
            (6, 0, ⟨(some 84), none, .move (.t 14)⟩),
            (7, 96, ⟨(some 85), none, .indexAddr 1 (.t 83) (.t 84)⟩),
            (8, 224, ⟨(some 86), none, .load false 1 (.t 85)⟩),
            (9, 0, ⟨(some 87), none, .move (.t 15)⟩),
            (10, 992, ⟨(some 88), none, .indexAddr 1 (.t 86) (.t 87)⟩),
            (11, 2016, ⟨(some 89), none, .load false 1 (.t 88)⟩),
            (12, 4064, ⟨(some 90), none, .move (.t 89)⟩),
            (13, 8160, ⟨(some 91), (some (90, false)), .move (.t 7)⟩),
            (14, 8160, ⟨(some 92), (some (90, false)), .move (.t 14)⟩),
            (15, 32736, ⟨(some 93), (some (90, false)), .indexAddr 1 (.t 91) (.t 92)⟩),
            (16, 65504, ⟨(some 94), (some (90, false)), .load false 1 (.t 93)⟩),
            (17, 8160, ⟨(some 95), (some (90, false)), .move (.t 13)⟩),
            (18, 262112, ⟨(some 96), (some (90, false)), .indexAddr 1 (.t 94) (.t 95)⟩),
            (19, 524256, ⟨(some 97), (some (90, false)), .load false 1 (.t 96)⟩),
            (20, 1048544, ⟨(some 98), (some (90, false)), .move (.t 97)⟩),
            (21, 2097120, ⟨(some 99), (some (98, true)), .move (.t 7)⟩),
            (22, 2097120, ⟨(some 100), (some (98, true)), .move (.t 13)⟩),
            (23, 8388576, ⟨(some 101), (some (98, true)), .indexAddr 1 (.t 99) (.t 100)⟩),
            (24, 16777184, ⟨(some 102), (some (98, true)), .load false 1 (.t 101)⟩),
            (25, 2097120, ⟨(some 103), (some (98, true)), .move (.t 15)⟩),
            (26, 67108832, ⟨(some 104), (some (98, true)), .indexAddr 1 (.t 102) (.t 103)⟩),
            (27, 134217696, ⟨(some 105), (some (98, true)), .load false 1 (.t 104)⟩),
            (28, 268435424, ⟨(some 106), (some (90, false)), .pick (.t 98) (.t 105) (.c (.bool false))⟩),
            (29, 536870880, ⟨(some 107), none, .pick (.t 90) (.c (.bool true)) (.t 106)⟩),
            (30, 1073741823, ⟨(some 108), none, .indexAddr 1 (.t 81) (.t 82)⟩),
            (31, 2147483647, ⟨none, none, .store 1 (.t 108) (.t 107)⟩)] (some [1, 7, 13, 14, 64, 65, 69, 70, 74, 75]))))
         (.ops [⟨(some 109), none, .bin .add 3 (.t 75) (.c (.int .i64 1))⟩,
           ⟨(some 75), none, .move (.t 109)⟩] (some [1, 7, 13, 14, 64, 65, 69, 70, 74, 75]))))))))))
      (.ops [⟨(some 110), none, .bin .add 3 (.t 70) (.c (.int .i64 1))⟩,
        ⟨(some 70), none, .move (.t 110)⟩] (some [1, 7, 13, 64, 65, 69, 70]))))))))))
   (.ops [⟨(some 111), none, .bin .add 3 (.t 65) (.c (.int .i64 1))⟩,
     ⟨(some 65), none, .move (.t 111)⟩] (some [1, 7, 64, 65]))))))))
 (.seq (.ops [⟨(some 112), none, .move (.t 7)⟩,
   ⟨(some 4), none, .move (.t 112)⟩,
   ⟨(some 5), none, .move (.c (.int .i64 0))⟩] (some [4, 5]))
 .ret))))))), [.tmp 4, .tmp 5]⟩

theorem is18 : FnIs Try.prog 18 x18 := ⟨Try.f18, _, Try.func18, by kernel_rfl, rfl, by kernel_rfl, by decide, by kernel_rfl⟩

/-- cloisonne/flow.Leaks -/
def x19 : XDecl := .code ⟨2, 
 (.seq (.ops [⟨(some 4), none, .move (.c (.slice none 0 0))⟩,
   ⟨(some 5), none, .move (.c (.int .i64 0))⟩] (some [0, 1]))
 (.seq (.ops [⟨(some 12), none, .move (.t 0)⟩,
   ⟨(some 13), none, .move (.t 1)⟩,
   ⟨(some 14), none, .call (.c (.func (.func 18) #[] #[])) [(.t 12), (.t 13)]⟩,
   ⟨(some 11), none, .move (.t 14)⟩,
   ⟨(some 15), none, .extract (.t 11) 0⟩,
   ⟨(some 16), none, .extract (.t 11) 1⟩,
   ⟨(some 6), none, .move (.t 15)⟩,
   ⟨(some 7), none, .move (.t 16)⟩] (some [1, 6, 7]))
 (.seq (.seq (.ops [⟨(some 17), none, .move (.t 7)⟩,
   ⟨(some 18), none, .bin .neq 31 (.t 17) (.c (.int .i64 0))⟩] (some [1, 6, 7, 18]))
 (.cond (.t 18)
  (.seq (.ops [⟨(some 19), none, .move (.t 7)⟩,
    ⟨(some 4), none, .move (.c (.slice none 0 0))⟩,
    ⟨(some 5), none, .move (.t 19)⟩] (some [4, 5]))
  .ret)
  .skip))
 (.seq (.ops [⟨(some 8), none, .move (.c (.slice none 0 0))⟩] (some [1, 6, 8]))
 (.seq (.seq (.ops [⟨(some 20), none, .move (.t 1)⟩,
   ⟨(some 21), none, .len (.t 20)⟩,
   ⟨(some 22), none, .move (.c (.int .i64 0))⟩] (some [1, 6, 8, 21, 22]))
 (.block 0
  (.loop
   (.seq (.ops [⟨(some 23), none, .bin .lss 3 (.t 22) (.t 21)⟩] (some [1, 6, 8, 21, 22, 23]))
   (.seq (.cond (.t 23)
    .skip
    (.exit 0))
   (.seq (.block 1
    (.seq (.ops [⟨(some 24), none, .move (.t 22)⟩,
      ⟨(some 9), none, .move (.t 24)⟩] (some [1, 6, 8, 9, 21, 22]))
    (.seq (.ops [⟨(some 25), none, .move (.t 1)⟩,
      ⟨(some 26), none, .len (.t 25)⟩,
      ⟨(some 27), none, .move (.c (.int .i64 0))⟩] (some [1, 6, 8, 9, 21, 22, 26, 27]))
    (.block 2
     (.loop
      (.seq (.ops [⟨(some 28), none, .bin .lss 3 (.t 27) (.t 26)⟩] (some [1, 6, 8, 9, 21, 22, 26, 27, 28]))
      (.seq (.cond (.t 28)
       .skip
       (.exit 2))
      (.seq (.block 3
       (.seq (.ops [⟨(some 29), none, .move (.t 27)⟩,
         ⟨(some 10), none, .move (.t 29)⟩] (some [1, 6, 8, 9, 10, 21, 22, 26, 27]))
       (.seq (.opsd [(0, 0, ⟨(some 30), none, .move (.t 6)⟩),
         (1, 0, ⟨(some 31), none, .move (.t 9)⟩),
         (2, 3, ⟨(some 32), none, .indexAddr 1 (.t 30) (.t 31)⟩),
         (3, 7, ⟨(some 33), none, .load false 1 (.t 32)⟩),
         (4, 0, ⟨(some 34), none, .move (.t 10)⟩),
         (5, 31, ⟨(some 35), none, .indexAddr 1 (.t 33) (.t 34)⟩),
         (6, 63, ⟨(some 36), none, .load false 1 (.t 35)⟩),
         (7, 127, ⟨(some 37), none, .move (.t 36)⟩),
         (8, 255, ⟨(some 38), (some (37, true)), .move (.t 1)⟩),
         (9, 255, ⟨(some 39), (some (37, true)), .move (.t 9)⟩),
         (10, 1023, ⟨(some 40), (some (37, true)), .indexAddr 1 (.t 38) (.t 39)⟩),
         (11, 2047, ⟨(some 41), (some (37, true)), .load false 1 (.t 40)⟩),
         (12, 255, ⟨(some 42), (some (37, true)), .move (.t 1)⟩),
         (13, 255, ⟨(some 43), (some (37, true)), .move (.t 10)⟩),
         (14, 12543, ⟨(some 44), (some (37, true)), .indexAddr 1 (.t 42) (.t 43)⟩),
         (15, 28927, ⟨(some 45), (some (37, true)), .load false 1 (.t 44)⟩),
         (16, 65535, ⟨(some 46), (some (37, true)), .call (.c (.func (.func 45) #[] #[])) [(.t 41), (.t 45)]⟩),
         (17, 131071, ⟨(some 47), (some (37, true)), .un .not (.t 46)⟩),
         (18, 262143, ⟨(some 48), none, .pick (.t 37) (.t 47) (.c (.bool false))⟩)] (some [1, 6, 8, 9, 10, 21, 22, 26, 27, 48]))
       (.cond (.t 48)
        (.ops [⟨(some 49), none, .move (.t 8)⟩,
          ⟨(some 50), none, .move (.t 9)⟩,
          ⟨(some 51), none, .move (.t 10)⟩,
          ⟨(some 52), none, .buildArr [(.int .i64 0), (.int .i64 0)] 1 [(0, (.t 50)), (1, (.t 51))]⟩,
          ⟨(some 53), none, .buildSlice [(.int .i64 0), (.int .i64 0)] 2 1 [(0, (.t 52))]⟩,
          ⟨(some 54), none, .append 2 16 [(.int .i64 0), (.int .i64 0)] (.t 49) (.t 53)⟩,
          ⟨(some 8), none, .move (.t 54)⟩] (some [1, 6, 8, 9, 21, 22, 26, 27]))
        .skip))))
      (.ops [⟨(some 55), none, .bin .add 3 (.t 27) (.c (.int .i64 1))⟩,
        ⟨(some 27), none, .move (.t 55)⟩] (some [1, 6, 8, 9, 21, 22, 26, 27]))))))))))
   (.ops [⟨(some 56), none, .bin .add 3 (.t 22) (.c (.int .i64 1))⟩,
     ⟨(some 22), none, .move (.t 56)⟩] (some [1, 6, 8, 21, 22]))))))))
 (.seq (.ops [⟨(some 57), none, .move (.t 8)⟩,
   ⟨(some 4), none, .move (.t 57)⟩,
   ⟨(some 5), none, .move (.c (.int .i64 0))⟩] (some [4, 5]))
 .ret)))))), [.tmp 4, .tmp 5]⟩

theorem is19 : FnIs Try.prog 19 x19 := ⟨Try.f19, _, Try.func19, by kernel_rfl, rfl, by kernel_rfl, by decide, by kernel_rfl⟩

/-- cloisonne/flow.Trusted -/
def x20 : XDecl := .code ⟨2, 
 (.seq (.ops [⟨(some 4), none, .move (.c (.slice none 0 0))⟩] (some [0, 1]))
 (.seq (.ops [⟨(some 5), none, .move (.c (.slice none 0 0))⟩] (some [0, 1, 5]))
 (.seq (.seq (.ops [⟨(some 7), none, .move (.t 0)⟩,
   ⟨(some 8), none, .call (.c (.func (.func 46) #[] #[])) [(.t 7)]⟩,
   ⟨(some 9), none, .move (.c (.int .i64 0))⟩] (some [0, 1, 5, 8, 9]))
 (.block 0
  (.loop
   (.seq (.ops [⟨(some 10), none, .bin .lss 3 (.t 9) (.t 8)⟩] (some [0, 1, 5, 8, 9, 10]))
   (.seq (.cond (.t 10)
    .skip
    (.exit 0))
   (.seq (.block 1
    (.seq (.ops [⟨(some 11), none, .move (.t 9)⟩,
      ⟨(some 6), none, .move (.t 11)⟩] (some [0, 1, 5, 6, 8, 9]))
    (.seq (.ops [⟨(some 12), none, .move (.t 0)⟩,
      ⟨(some 13), none, .move (.t 6)⟩,
      ⟨(some 14), none, .move (.t 1)⟩,
      ⟨(some 15), none, .call (.c (.func (.func 32) #[] #[])) [(.t 12), (.t 13), (.t 14)]⟩] (some [0, 1, 5, 6, 8, 9, 15]))
    (.cond (.t 15)
     (.ops [⟨(some 16), none, .move (.t 5)⟩,
       ⟨(some 17), none, .move (.t 6)⟩,
       ⟨(some 18), none, .buildSlice [(.int .i64 0)] 1 1 [(0, (.t 17))]⟩,
       ⟨(some 19), none, .append 1 8 [(.int .i64 0)] (.t 16) (.t 18)⟩,
       ⟨(some 5), none, .move (.t 19)⟩] (some [0, 1, 5, 8, 9]))
     .skip))))
   (.ops [⟨(some 20), none, .bin .add 3 (.t 9) (.c (.int .i64 1))⟩,
     ⟨(some 9), none, .move (.t 20)⟩] (some [0, 1, 5, 8, 9]))))))))
 (.seq (.ops [⟨(some 21), none, .move (.t 5)⟩,
   ⟨(some 4), none, .move (.t 21)⟩] (some [4]))
 .ret)))), [.tmp 4]⟩

theorem is20 : FnIs Try.prog 20 x20 := ⟨Try.f20, _, Try.func20, by kernel_rfl, rfl, by kernel_rfl, by decide, by kernel_rfl⟩

/-- (*cloisonne/cloisonneref16.Table).Has -/
def x21 : XDecl := .code ⟨4, 
 (.seq (.ops [⟨(some 8), none, .move (.c (.bool false))⟩] (some [0, 1, 2, 3]))
 (.seq (.seq (.ops [⟨(some 9), none, .move (.c (.int .i64 0))⟩] (some [0, 1, 2, 3, 9]))
 (.block 0
  (.loop
   (.seq (.seq (.ops [⟨(some 10), none, .move (.t 9)⟩,
     ⟨(some 11), none, .move (.t 0)⟩,
     ⟨(some 12), none, .nilCheck (.t 11)⟩,
     ⟨(some 13), none, .fieldAddr 2 (.t 12)⟩,
     ⟨(some 14), none, .load false 1 (.t 13)⟩,
     ⟨(some 15), none, .len (.t 14)⟩,
     ⟨(some 16), none, .bin .lss 3 (.t 10) (.t 15)⟩] (some [0, 1, 2, 3, 9, 16]))
   (.cond (.t 16)
    .skip
    (.exit 0)))
   (.seq (.block 1
    (.seq (.ops [⟨(some 19), none, .move (.t 0)⟩,
      ⟨(some 20), none, .nilCheck (.t 19)⟩,
      ⟨(some 21), none, .fieldAddr 2 (.t 20)⟩,
      ⟨(some 22), none, .load false 1 (.t 21)⟩,
      ⟨(some 23), none, .move (.t 9)⟩,
      ⟨(some 24), none, .indexAddr 3 (.t 22) (.t 23)⟩,
      ⟨(some 25), none, .load true 3 (.t 24)⟩,
      ⟨(some 26), none, .move (.t 1)⟩,
      ⟨(some 27), none, .move (.t 2)⟩,
      ⟨(some 28), none, .move (.t 3)⟩,
      ⟨(some 29), none, .build [(.int .i64 0), (.int .u64 0), (.bool false)] [(0, 1), (1, 1), (2, 1)] [(0, (.t 26)), (1, (.t 27)), (2, (.t 28))]⟩,
      ⟨(some 30), none, .bin .eql 97 (.t 25) (.t 29)⟩] (some [0, 1, 2, 3, 9, 30]))
    (.cond (.t 30)
     (.seq (.ops [⟨(some 8), none, .move (.c (.bool true))⟩] (some [8]))
     .ret)
     .skip)))
   (.ops [⟨(some 17), none, .move (.t 9)⟩,
     ⟨(some 18), none, .bin .add 3 (.t 17) (.c (.int .i64 1))⟩,
     ⟨(some 9), none, .move (.t 18)⟩] (some [0, 1, 2, 3, 9])))))))
 (.seq (.ops [⟨(some 8), none, .move (.c (.bool false))⟩] (some [8]))
 .ret))), [.tmp 8]⟩

theorem is21 : FnIs Try.prog 21 x21 := ⟨Try.f21, _, Try.func21, by kernel_rfl, rfl, by kernel_rfl, by decide, by kernel_rfl⟩

/-- cloisonne/cloisonneref02.Has -/
def x22 : XDecl := .code ⟨2, 
 (.seq (.ops [⟨(some 4), none, .move (.c (.bool false))⟩] (some [0, 1]))
 (.seq (.seq (.ops [⟨(some 5), none, .move (.c (.int .i64 0))⟩] (some [0, 1, 5]))
 (.block 0
  (.loop
   (.seq (.seq (.ops [⟨(some 6), none, .move (.t 5)⟩,
     ⟨(some 7), none, .move (.t 0)⟩,
     ⟨(some 8), none, .len (.t 7)⟩,
     ⟨(some 9), none, .bin .lss 3 (.t 6) (.t 8)⟩] (some [0, 1, 5, 9]))
   (.cond (.t 9)
    .skip
    (.exit 0)))
   (.seq (.block 1
    (.seq (.ops [⟨(some 12), none, .move (.t 0)⟩,
      ⟨(some 13), none, .move (.t 5)⟩,
      ⟨(some 14), none, .indexAddr 1 (.t 12) (.t 13)⟩,
      ⟨(some 15), none, .load false 1 (.t 14)⟩,
      ⟨(some 16), none, .move (.t 1)⟩,
      ⟨(some 17), none, .bin .eql 30 (.t 15) (.t 16)⟩] (some [0, 1, 5, 17]))
    (.cond (.t 17)
     (.seq (.ops [⟨(some 4), none, .move (.c (.bool true))⟩] (some [4]))
     .ret)
     .skip)))
   (.ops [⟨(some 10), none, .move (.t 5)⟩,
     ⟨(some 11), none, .bin .add 3 (.t 10) (.c (.int .i64 1))⟩,
     ⟨(some 5), none, .move (.t 11)⟩] (some [0, 1, 5])))))))
 (.seq (.ops [⟨(some 4), none, .move (.c (.bool false))⟩] (some [4]))
 .ret))), [.tmp 4]⟩

theorem is22 : FnIs Try.prog 22 x22 := ⟨Try.f22, _, Try.func22, by kernel_rfl, rfl, by kernel_rfl, by decide, by kernel_rfl⟩

/-- cloisonne/cloisonneref02.Right -/
def x23 : XDecl := .code ⟨1, 
 (.seq (.ops [⟨(some 2), none, .move (.c (.bool false))⟩] (some [0]))
 (.seq (.seq (.ops [⟨(some 3), none, .move (.c (.int .i64 0))⟩] (some [0, 3]))
 (.block 0
  (.loop
   (.seq (.seq (.ops [⟨(some 4), none, .move (.t 3)⟩,
     ⟨(some 5), none, .move (.t 0)⟩,
     ⟨(some 6), none, .len (.t 5)⟩,
     ⟨(some 7), none, .bin .lss 3 (.t 4) (.t 6)⟩] (some [0, 3, 7]))
   (.cond (.t 7)
    .skip
    (.exit 0)))
   (.seq (.block 1
    (.seq (.opsr [⟨(some 10), none, .move (.t 0)⟩,
      ⟨(some 11), none, .move (.t 3)⟩,
      ⟨(some 12), none, .indexAddr 1 (.t 10) (.t 11)⟩,
      ⟨(some 13), none, .load false 1 (.t 12)⟩,
      ⟨(some 14), none, .bin .eql 30 (.t 13) (.c (.int .u64 0))⟩,
      ⟨(some 15), none, .move (.t 14)⟩,
      ⟨(some 16), (some (15, false)), .move (.t 3)⟩,
      ⟨(some 17), (some (15, false)), .bin .gtr 3 (.t 16) (.c (.int .i64 0))⟩,
      ⟨(some 18), (some (15, false)), .move (.t 17)⟩,
      ⟨(some 19), (some (18, true)), .move (.t 0)⟩,
      ⟨(some 20), (some (18, true)), .move (.t 3)⟩,
      ⟨(some 21), (some (18, true)), .bin .sub 3 (.t 20) (.c (.int .i64 1))⟩,
      ⟨(some 22), (some (18, true)), .indexAddr 1 (.t 19) (.t 21)⟩,
      ⟨(some 23), (some (18, true)), .load false 1 (.t 22)⟩,
      ⟨(some 24), (some (18, true)), .move (.t 0)⟩,
      ⟨(some 25), (some (18, true)), .move (.t 3)⟩,
      ⟨(some 26), (some (18, true)), .indexAddr 1 (.t 24) (.t 25)⟩,
      ⟨(some 27), (some (18, true)), .load false 1 (.t 26)⟩,
      ⟨(some 28), (some (18, true)), .bin .geq 30 (.t 23) (.t 27)⟩,
      ⟨(some 29), (some (15, false)), .pick (.t 18) (.t 28) (.c (.bool false))⟩,
      ⟨(some 30), none, .pick (.t 15) (.c (.bool true)) (.t 29)⟩] (some [0, 3, 30]))
    (.cond (.t 30)
     (.seq (.ops [⟨(some 2), none, .move (.c (.bool false))⟩] (some [2]))
     .ret)
     .skip)))
   (.ops [⟨(some 8), none, .move (.t 3)⟩,
     ⟨(some 9), none, .bin .add 3 (.t 8) (.c (.int .i64 1))⟩,
     ⟨(some 3), none, .move (.t 9)⟩] (some [0, 3])))))))
 (.seq (.ops [⟨(some 31), none, .move (.t 0)⟩,
   ⟨(some 32), none, .len (.t 31)⟩,
   ⟨(some 33), none, .bin .leq 3 (.t 32) (.c (.int .i64 6))⟩,
   ⟨(some 2), none, .move (.t 33)⟩] (some [2]))
 .ret))), [.tmp 2]⟩

theorem is23 : FnIs Try.prog 23 x23 := ⟨Try.f23, _, Try.func23, by kernel_rfl, rfl, by kernel_rfl, by decide, by kernel_rfl⟩

/-- cloisonne/cloisonneref02.In -/
def x24 : XDecl := .code ⟨2, 
 (.seq (.ops [⟨(some 4), none, .move (.c (.bool false))⟩] (some [0, 1]))
 (.seq (.seq (.ops [⟨(some 5), none, .move (.c (.int .i64 0))⟩] (some [0, 1, 5]))
 (.block 0
  (.loop
   (.seq (.seq (.ops [⟨(some 6), none, .move (.t 5)⟩,
     ⟨(some 7), none, .move (.t 0)⟩,
     ⟨(some 8), none, .len (.t 7)⟩,
     ⟨(some 9), none, .bin .lss 3 (.t 6) (.t 8)⟩] (some [0, 1, 5, 9]))
   (.cond (.t 9)
    .skip
    (.exit 0)))
   (.seq (.block 1
    (.seq (.ops [⟨(some 12), none, .move (.t 1)⟩,
      ⟨(some 13), none, .move (.t 0)⟩,
      ⟨(some 14), none, .move (.t 5)⟩,
      ⟨(some 15), none, .indexAddr 1 (.t 13) (.t 14)⟩,
      ⟨(some 16), none, .load false 1 (.t 15)⟩,
      ⟨(some 17), none, .call (.c (.func (.func 22) #[] #[])) [(.t 12), (.t 16)]⟩,
      ⟨(some 18), none, .un .not (.t 17)⟩] (some [0, 1, 5, 18]))
    (.cond (.t 18)
     (.seq (.ops [⟨(some 4), none, .move (.c (.bool false))⟩] (some [4]))
     .ret)
     .skip)))
   (.ops [⟨(some 10), none, .move (.t 5)⟩,
     ⟨(some 11), none, .bin .add 3 (.t 10) (.c (.int .i64 1))⟩,
     ⟨(some 5), none, .move (.t 11)⟩] (some [0, 1, 5])))))))
 (.seq (.ops [⟨(some 4), none, .move (.c (.bool true))⟩] (some [4]))
 .ret))), [.tmp 4]⟩

theorem is24 : FnIs Try.prog 24 x24 := ⟨Try.f24, _, Try.func24, by kernel_rfl, rfl, by kernel_rfl, by decide, by kernel_rfl⟩

/-- cloisonne/cloisonneref05.Ints -/
def x25 : XDecl := .code ⟨2, 
 (.seq (.ops [⟨(some 4), none, .move (.c (.bool false))⟩] (some [0, 1]))
 (.seq (.seq (.ops [⟨(some 6), none, .move (.t 0)⟩,
   ⟨(some 7), none, .len (.t 6)⟩,
   ⟨(some 8), none, .move (.t 1)⟩,
   ⟨(some 9), none, .len (.t 8)⟩,
   ⟨(some 10), none, .bin .neq 3 (.t 7) (.t 9)⟩] (some [0, 1, 10]))
 (.cond (.t 10)
  (.seq (.ops [⟨(some 4), none, .move (.c (.bool false))⟩] (some [4]))
  .ret)
  .skip))
 (.seq (.seq (.ops [⟨(some 5), none, .move (.c (.int .i64 0))⟩] (some [0, 1, 5]))
 (.block 0
  (.loop
   (.seq (.seq (.ops [⟨(some 11), none, .move (.t 5)⟩,
     ⟨(some 12), none, .move (.t 0)⟩,
     ⟨(some 13), none, .len (.t 12)⟩,
     ⟨(some 14), none, .bin .lss 3 (.t 11) (.t 13)⟩] (some [0, 1, 5, 14]))
   (.cond (.t 14)
    .skip
    (.exit 0)))
   (.seq (.block 1
    (.seq (.opsr [⟨(some 17), none, .move (.t 0)⟩,
      ⟨(some 18), none, .move (.t 5)⟩,
      ⟨(some 19), none, .indexAddr 1 (.t 17) (.t 18)⟩,
      ⟨(some 20), none, .load false 1 (.t 19)⟩,
      ⟨(some 21), none, .move (.t 1)⟩,
      ⟨(some 22), none, .move (.t 5)⟩,
      ⟨(some 23), none, .indexAddr 1 (.t 21) (.t 22)⟩,
      ⟨(some 24), none, .load false 1 (.t 23)⟩,
      ⟨(some 25), none, .bin .neq 3 (.t 20) (.t 24)⟩] (some [0, 1, 5, 25]))
    (.cond (.t 25)
     (.seq (.ops [⟨(some 4), none, .move (.c (.bool false))⟩] (some [4]))
     .ret)
     .skip)))
   (.ops [⟨(some 15), none, .move (.t 5)⟩,
     ⟨(some 16), none, .bin .add 3 (.t 15) (.c (.int .i64 1))⟩,
     ⟨(some 5), none, .move (.t 16)⟩] (some [0, 1, 5])))))))
 (.seq (.ops [⟨(some 4), none, .move (.c (.bool true))⟩] (some [4]))
 .ret)))), [.tmp 4]⟩

theorem is25 : FnIs Try.prog 25 x25 := ⟨Try.f25, _, Try.func25, by kernel_rfl, rfl, by kernel_rfl, by decide, by kernel_rfl⟩

/-- cloisonne/caps.Load -/
def x26 : XDecl := .code ⟨3, 
 (.seq (.ops [⟨(some 3), none, .box (.t 0)⟩,
   ⟨(some 6), none, .move (.c (.pointer none))⟩,
   ⟨(some 7), none, .move (.c (.int .i64 0))⟩] (some [1, 2, 3]))
 (.seq (.ops [⟨(some 13), none, .move (.t 1)⟩,
   ⟨(some 14), none, .len (.t 13)⟩,
   ⟨(some 15), none, .call (.c (.func (.func 27) #[] #[])) [(.t 14)]⟩,
   ⟨(some 12), none, .move (.t 15)⟩,
   ⟨(some 16), none, .extract (.t 12) 0⟩,
   ⟨(some 17), none, .extract (.t 12) 1⟩,
   ⟨(some 8), none, .move (.t 16)⟩,
   ⟨(some 9), none, .move (.t 17)⟩] (some [1, 2, 3, 8, 9]))
 (.seq (.seq (.ops [⟨(some 18), none, .move (.t 9)⟩,
   ⟨(some 19), none, .bin .neq 31 (.t 18) (.c (.int .i64 0))⟩,
   ⟨(some 20), none, .move (.t 19)⟩,
   ⟨(some 21), (some (20, false)), .move (.t 2)⟩,
   ⟨(some 22), (some (20, false)), .len (.t 21)⟩,
   ⟨(some 23), (some (20, false)), .move (.t 1)⟩,
   ⟨(some 24), (some (20, false)), .len (.t 23)⟩,
   ⟨(some 25), (some (20, false)), .bin .neq 3 (.t 22) (.t 24)⟩,
   ⟨(some 26), none, .pick (.t 20) (.c (.bool true)) (.t 25)⟩,
   ⟨(some 27), none, .move (.t 26)⟩,
   ⟨(some 28), (some (27, false)), .load false 1 (.t 3)⟩,
   ⟨(some 29), (some (27, false)), .bin .lss 3 (.t 28) (.c (.int .i64 0))⟩,
   ⟨(some 30), none, .pick (.t 27) (.c (.bool true)) (.t 29)⟩,
   ⟨(some 31), none, .move (.t 30)⟩,
   ⟨(some 32), (some (31, false)), .load false 1 (.t 3)⟩,
   ⟨(some 33), (some (31, false)), .bin .gtr 3 (.t 32) (.c (.int .i64 16))⟩,
   ⟨(some 34), none, .pick (.t 31) (.c (.bool true)) (.t 33)⟩] (some [1, 2, 3, 8, 34]))
 (.cond (.t 34)
  (.seq (.ops [⟨(some 6), none, .move (.c (.pointer none))⟩,
    ⟨(some 7), none, .move (.c (.int .i64 1))⟩] (some [6, 7]))
  .ret)
  .skip))
 (.seq (.ops [⟨(some 35), none, .makeFunc (.func 47) [] [(.t 3)]⟩,
   ⟨(some 10), none, .move (.t 35)⟩] (some [1, 2, 3, 8, 10]))
 (.seq (.seq (.ops [⟨(some 36), none, .move (.t 1)⟩,
   ⟨(some 37), none, .move (.t 10)⟩,
   ⟨(some 38), none, .call (.c (.func (.func 33) #[] #[])) [(.t 36), (.t 37)]⟩,
   ⟨(some 39), none, .move (.t 38)⟩,
   ⟨(some 40), (some (39, false)), .move (.t 2)⟩,
   ⟨(some 41), (some (39, false)), .move (.t 10)⟩,
   ⟨(some 42), (some (39, false)), .call (.c (.func (.func 33) #[] #[])) [(.t 40), (.t 41)]⟩,
   ⟨(some 43), none, .pick (.t 39) (.c (.bool true)) (.t 42)⟩] (some [1, 2, 3, 8, 43]))
 (.cond (.t 43)
  (.seq (.ops [⟨(some 6), none, .move (.c (.pointer none))⟩,
    ⟨(some 7), none, .move (.c (.int .i64 1))⟩] (some [6, 7]))
  .ret)
  .skip))
 (.seq (.ops [⟨(some 44), none, .move (.t 8)⟩,
   ⟨(some 45), none, .load false 1 (.t 3)⟩,
   ⟨(some 46), none, .nilCheck (.t 44)⟩,
   ⟨(some 47), none, .fieldAddr 0 (.t 46)⟩,
   ⟨none, none, .store 1 (.t 47) (.t 45)⟩] (some [1, 2, 8]))
 (.seq (.seq (.ops [⟨(some 48), none, .move (.t 8)⟩,
   ⟨(some 49), none, .nilCheck (.t 48)⟩,
   ⟨(some 50), none, .fieldAddr 1 (.t 49)⟩,
   ⟨(some 51), none, .load false 1 (.t 50)⟩,
   ⟨(some 52), none, .len (.t 51)⟩,
   ⟨(some 53), none, .move (.c (.int .i64 0))⟩] (some [1, 2, 8, 52, 53]))
 (.block 0
  (.loop
   (.seq (.ops [⟨(some 54), none, .bin .lss 3 (.t 53) (.t 52)⟩] (some [1, 2, 8, 52, 53, 54]))
   (.seq (.cond (.t 54)
    .skip
    (.exit 0))
   (.seq (.block 1
    (.seq (.ops [⟨(some 55), none, .move (.t 53)⟩,
      ⟨(some 11), none, .move (.t 55)⟩] (some [1, 2, 8, 11, 52, 53]))
    (.opsd [(0, 0, ⟨(some 56), none, .move (.t 8)⟩),
      (1, 1, ⟨(some 57), none, .nilCheck (.t 56)⟩),
      (2, 3, ⟨(some 58), none, .fieldAddr 1 (.t 57)⟩),
      (3, 7, ⟨(some 59), none, .load false 1 (.t 58)⟩),
      (4, 0, ⟨(some 60), none, .move (.t 11)⟩),
      (5, 0, ⟨(some 61), none, .move (.t 1)⟩),
      (6, 0, ⟨(some 62), none, .move (.t 11)⟩),
      (7, 96, ⟨(some 63), none, .indexAddr 1 (.t 61) (.t 62)⟩),
      (8, 224, ⟨(some 64), none, .load false 1 (.t 63)⟩),
      (9, 0, ⟨(some 65), none, .move (.t 2)⟩),
      (10, 0, ⟨(some 66), none, .move (.t 11)⟩),
      (11, 1536, ⟨(some 67), none, .indexAddr 1 (.t 65) (.t 66)⟩),
      (12, 3584, ⟨(some 68), none, .load false 1 (.t 67)⟩),
      (13, 8160, ⟨(some 69), none, .build [(.int .u64 0), (.int .u64 0)] [(0, 1), (1, 1)] [(0, (.t 64)), (1, (.t 68))]⟩),
      (14, 16383, ⟨(some 70), none, .indexAddr 2 (.t 59) (.t 60)⟩),
      (15, 32767, ⟨none, none, .store 2 (.t 70) (.t 69)⟩)] (some [1, 2, 8, 52, 53]))))
   (.ops [⟨(some 71), none, .bin .add 3 (.t 53) (.c (.int .i64 1))⟩,
     ⟨(some 53), none, .move (.t 71)⟩] (some [1, 2, 8, 52, 53]))))))))
 (.seq (.ops [⟨(some 72), none, .move (.t 8)⟩,
   ⟨(some 6), none, .move (.t 72)⟩,
   ⟨(some 7), none, .move (.c (.int .i64 0))⟩] (some [6, 7]))
 .ret)))))))), [.tmp 6, .tmp 7]⟩

theorem is26 : FnIs Try.prog 26 x26 := ⟨Try.f26, _, Try.func26, by kernel_rfl, rfl, by kernel_rfl, by decide, by kernel_rfl⟩

/-- cloisonne/caps.New -/
def x27 : XDecl := .code ⟨1, 
 (.seq (.ops [⟨(some 2), none, .move (.c (.pointer none))⟩,
   ⟨(some 3), none, .move (.c (.int .i64 0))⟩] (some [0]))
 (.seq (.seq (.ops [⟨(some 4), none, .move (.t 0)⟩,
   ⟨(some 5), none, .bin .lss 3 (.t 4) (.c (.int .i64 1))⟩,
   ⟨(some 6), none, .move (.t 5)⟩,
   ⟨(some 7), (some (6, false)), .move (.t 0)⟩,
   ⟨(some 8), (some (6, false)), .bin .gtr 3 (.t 7) (.c (.int .i64 8))⟩,
   ⟨(some 9), none, .pick (.t 6) (.c (.bool true)) (.t 8)⟩] (some [0, 9]))
 (.cond (.t 9)
  (.seq (.ops [⟨(some 2), none, .move (.c (.pointer none))⟩,
    ⟨(some 3), none, .move (.c (.int .i64 1))⟩] (some [2, 3]))
  .ret)
  .skip))
 (.seq (.ops [⟨(some 10), none, .move (.t 0)⟩,
   ⟨(some 11), none, .makeSlice [(.int .u64 0), (.int .u64 0)] 16 (.t 10) (.t 10)⟩,
   ⟨(some 12), none, .build [(.int .i64 0), (.slice none 0 0)] [(0, 1), (1, 1)] [(1, (.t 11))]⟩,
   ⟨(some 13), none, .box (.t 12)⟩,
   ⟨(some 2), none, .move (.t 13)⟩,
   ⟨(some 3), none, .move (.c (.int .i64 0))⟩] (some [2, 3]))
 .ret))), [.tmp 2, .tmp 3]⟩

theorem is27 : FnIs Try.prog 27 x27 := ⟨Try.f27, _, Try.func27, by kernel_rfl, rfl, by kernel_rfl, by decide, by kernel_rfl⟩

/-- (*cloisonne/cloisonneref16.Table).Do -/
def x28 : XDecl := .code ⟨2, 
 (.seq (.ops [⟨(some 3), none, .box (.t 1)⟩,
   ⟨(some 4), none, .move (.c (.int .u64 0))⟩,
   ⟨(some 5), none, .move (.c (.int .i64 0))⟩] (some [0, 3]))
 (.seq (.ops [⟨(some 8), none, .move (.t 0)⟩,
   ⟨(some 9), none, .load true 5 (.t 3)⟩,
   ⟨(some 10), none, .call (.c (.func (.func 48) #[] #[])) [(.t 8), (.t 9)]⟩,
   ⟨(some 6), none, .move (.t 10)⟩] (some [0, 3, 6]))
 (.seq (.seq (.ops [⟨(some 11), none, .move (.t 6)⟩,
   ⟨(some 12), none, .bin .neq 31 (.t 11) (.c (.int .i64 0))⟩] (some [0, 3, 6, 12]))
 (.cond (.t 12)
  (.seq (.ops [⟨(some 13), none, .move (.t 6)⟩,
    ⟨(some 4), none, .move (.c (.int .u64 0))⟩,
    ⟨(some 5), none, .move (.t 13)⟩] (some [4, 5]))
  .ret)
  .skip))
 (.seq (.seq (.ops [⟨(some 14), none, .fieldAddr 0 (.t 3)⟩,
   ⟨(some 15), none, .load false 1 (.t 14)⟩,
   ⟨(some 16), none, .bin .eql 3 (.t 15) (.c (.int .i64 2))⟩] (some [0, 3, 16]))
 (.cond (.t 16)
  (.seq (.opsd [(0, 0, ⟨(some 17), none, .move (.t 0)⟩),
    (1, 0, ⟨(some 18), none, .move (.t 0)⟩),
    (2, 2, ⟨(some 19), none, .nilCheck (.t 18)⟩),
    (3, 6, ⟨(some 20), none, .fieldAddr 2 (.t 19)⟩),
    (4, 14, ⟨(some 21), none, .load false 1 (.t 20)⟩),
    (5, 0, ⟨(some 22), none, .fieldAddr 2 (.t 3)⟩),
    (6, 32, ⟨(some 23), none, .load false 1 (.t 22)⟩),
    (7, 0, ⟨(some 24), none, .fieldAddr 3 (.t 3)⟩),
    (8, 128, ⟨(some 25), none, .load false 1 (.t 24)⟩),
    (9, 0, ⟨(some 26), none, .fieldAddr 4 (.t 3)⟩),
    (10, 512, ⟨(some 27), none, .load false 1 (.t 26)⟩),
    (11, 2016, ⟨(some 28), none, .build [(.int .i64 0), (.int .u64 0), (.bool false)] [(0, 1), (1, 1), (2, 1)] [(0, (.t 23)), (1, (.t 25)), (2, (.t 27))]⟩),
    (12, 4064, ⟨(some 29), none, .buildSlice [(.int .i64 0), (.int .u64 0), (.bool false)] 3 1 [(0, (.t 28))]⟩),
    (13, 8190, ⟨(some 30), none, .append 3 24 [(.int .i64 0), (.int .u64 0), (.bool false)] (.t 21) (.t 29)⟩),
    (14, 16383, ⟨(some 31), none, .nilCheck (.t 17)⟩),
    (15, 32767, ⟨(some 32), none, .fieldAddr 2 (.t 31)⟩),
    (16, 65535, ⟨none, none, .store 1 (.t 32) (.t 30)⟩)] (some [3]))
  (.seq (.ops [⟨(some 33), none, .fieldAddr 3 (.t 3)⟩,
    ⟨(some 34), none, .load false 1 (.t 33)⟩,
    ⟨(some 4), none, .move (.t 34)⟩,
    ⟨(some 5), none, .move (.c (.int .i64 0))⟩] (some [4, 5]))
  .ret))
  .skip))
 (.seq (.ops [⟨(some 35), none, .move (.t 0)⟩,
   ⟨(some 36), none, .move (.t 0)⟩,
   ⟨(some 37), none, .nilCheck (.t 36)⟩,
   ⟨(some 38), none, .fieldAddr 1 (.t 37)⟩,
   ⟨(some 39), none, .load false 1 (.t 38)⟩,
   ⟨(some 40), none, .bin .add 3 (.t 39) (.c (.int .i64 1))⟩,
   ⟨(some 41), none, .nilCheck (.t 35)⟩,
   ⟨(some 42), none, .fieldAddr 1 (.t 41)⟩,
   ⟨none, none, .store 1 (.t 42) (.t 40)⟩] (some [0, 3]))
 (.seq (.ops [⟨(some 43), none, .move (.t 0)⟩,
   ⟨(some 44), none, .nilCheck (.t 43)⟩,
   ⟨(some 45), none, .fieldAddr 1 (.t 44)⟩,
   ⟨(some 46), none, .load false 1 (.t 45)⟩,
   ⟨(some 47), none, .conv 3 30 (.t 46)⟩,
   ⟨(some 7), none, .move (.t 47)⟩] (some [0, 3, 7]))
 (.seq (.opsd [(0, 0, ⟨(some 48), none, .move (.t 0)⟩),
   (1, 0, ⟨(some 49), none, .move (.t 0)⟩),
   (2, 2, ⟨(some 50), none, .nilCheck (.t 49)⟩),
   (3, 6, ⟨(some 51), none, .fieldAddr 2 (.t 50)⟩),
   (4, 14, ⟨(some 52), none, .load false 1 (.t 51)⟩),
   (5, 0, ⟨(some 53), none, .fieldAddr 1 (.t 3)⟩),
   (6, 32, ⟨(some 54), none, .load false 1 (.t 53)⟩),
   (7, 0, ⟨(some 55), none, .move (.t 7)⟩),
   (8, 224, ⟨(some 56), none, .build [(.int .i64 0), (.int .u64 0), (.bool false)] [(0, 1), (1, 1), (2, 1)] [(0, (.t 54)), (1, (.t 55))]⟩),
   (9, 0, ⟨(some 57), none, .fieldAddr 1 (.t 3)⟩),
   (10, 512, ⟨(some 58), none, .load false 1 (.t 57)⟩),
   (11, 0, ⟨(some 59), none, .move (.t 7)⟩),
   (12, 3584, ⟨(some 60), none, .build [(.int .i64 0), (.int .u64 0), (.bool false)] [(0, 1), (1, 1), (2, 1)] [(0, (.t 58)), (1, (.t 59)), (2, (.c (.bool true)))]⟩),
   (13, 8160, ⟨(some 61), none, .buildSlice [(.int .i64 0), (.int .u64 0), (.bool false)] 3 2 [(0, (.t 56)), (1, (.t 60))]⟩),
   (14, 16382, ⟨(some 62), none, .append 3 24 [(.int .i64 0), (.int .u64 0), (.bool false)] (.t 52) (.t 61)⟩),
   (15, 32767, ⟨(some 63), none, .nilCheck (.t 48)⟩),
   (16, 65535, ⟨(some 64), none, .fieldAddr 2 (.t 63)⟩),
   (17, 131071, ⟨none, none, .store 1 (.t 64) (.t 62)⟩)] (some [7]))
 (.seq (.ops [⟨(some 65), none, .move (.t 7)⟩,
   ⟨(some 4), none, .move (.t 65)⟩,
   ⟨(some 5), none, .move (.c (.int .i64 0))⟩] (some [4, 5]))
 .ret)))))))), [.tmp 4, .tmp 5]⟩

theorem is28 : FnIs Try.prog 28 x28 := ⟨Try.f28, _, Try.func28, by kernel_rfl, rfl, by kernel_rfl, by decide, by kernel_rfl⟩

/-- cloisonne/flow.one -/
def x29 : XDecl := .code ⟨2, 
 (.seq (.ops [⟨(some 4), none, .move (.c (.bool false))⟩] (some [0, 1]))
 (.seq (.ops [⟨(some 5), none, .move (.t 1)⟩,
   ⟨(some 6), none, .bin .geq 3 (.t 5) (.c (.int .i64 0))⟩,
   ⟨(some 7), none, .move (.t 6)⟩,
   ⟨(some 8), (some (7, true)), .move (.t 1)⟩,
   ⟨(some 9), (some (7, true)), .move (.t 0)⟩,
   ⟨(some 10), (some (7, true)), .call (.c (.func (.func 46) #[] #[])) [(.t 9)]⟩,
   ⟨(some 11), (some (7, true)), .bin .lss 3 (.t 8) (.t 10)⟩,
   ⟨(some 12), none, .pick (.t 7) (.t 11) (.c (.bool false))⟩,
   ⟨(some 4), none, .move (.t 12)⟩] (some [4]))
 .ret)), [.tmp 4]⟩

theorem is29 : FnIs Try.prog 29 x29 := ⟨Try.f29, _, Try.func29, by kernel_rfl, rfl, by kernel_rfl, by decide, by kernel_rfl⟩


end Go.Proofs.Ytfjeccaffenngaa.X
