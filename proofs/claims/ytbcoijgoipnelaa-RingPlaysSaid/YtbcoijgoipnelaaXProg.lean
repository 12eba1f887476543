/-
  Own work, printed by a program of ours (mkprog.py): the functions of this seat as code of the abstract run, and that each is the model's.
-/
import Derived.Test.YtbcoijgoipnelaaXLaw
import Derived.Test.YtbcoijgoipnelaaChecked
set_option maxRecDepth 100000
namespace Go.Proofs.Ytbcoijgoipnelaa.X
open Go

-- 0 main.main: no body
def x0 : XDecl := .ext 0

-- 1 gosem.cut: no body
def x1 : XDecl := .ext 1

/-- gosem.cut.init -/
def x2 : XDecl := .code ⟨0, 
 (.ops [⟨(some 0), none, .call (.c (.func (.func 1) #[] #[])) []⟩] (some [])), []⟩

/-- cloisonne/cloisonnelaw10.RingHidden -/
def x3 : XDecl := .code ⟨5, 
 (.seq (.ops [⟨(some 10), none, .move (.c (.bool false))⟩] (some [0, 1, 2, 3, 4]))
 (.seq (.seq (.ops [⟨(some 28), none, .call (.c (.func (.func 7) #[] #[])) []⟩,
   ⟨(some 29), none, .un .not (.t 28)⟩] (some [0, 1, 2, 3, 4, 29]))
 (.cond (.t 29)
  (.seq (.ops [⟨(some 10), none, .move (.c (.bool false))⟩] (some [10]))
  .ret)
  .skip))
 (.seq (.ops [⟨(some 31), none, .move (.t 0)⟩,
   ⟨(some 32), none, .move (.t 1)⟩,
   ⟨(some 33), none, .call (.c (.func (.func 8) #[] #[])) [(.t 31), (.t 32)]⟩,
   ⟨(some 30), none, .move (.t 33)⟩,
   ⟨(some 34), none, .extract (.t 30) 0⟩,
   ⟨(some 35), none, .extract (.t 30) 1⟩,
   ⟨(some 11), none, .move (.t 34)⟩,
   ⟨(some 12), none, .move (.t 35)⟩] (some [0, 1, 2, 3, 4, 11, 12]))
 (.seq (.ops [⟨(some 37), none, .move (.t 0)⟩,
   ⟨(some 38), none, .move (.t 1)⟩,
   ⟨(some 39), none, .call (.c (.func (.func 8) #[] #[])) [(.t 37), (.t 38)]⟩,
   ⟨(some 36), none, .move (.t 39)⟩,
   ⟨(some 40), none, .extract (.t 36) 0⟩,
   ⟨(some 41), none, .extract (.t 36) 1⟩,
   ⟨(some 13), none, .move (.t 40)⟩,
   ⟨(some 14), none, .move (.t 41)⟩] (some [2, 3, 4, 11, 12, 13, 14]))
 (.seq (.seq (.ops [⟨(some 42), none, .move (.t 12)⟩,
   ⟨(some 43), none, .bin .neq 25 (.t 42) (.c (.int .i64 0))⟩,
   ⟨(some 44), none, .move (.t 43)⟩,
   ⟨(some 45), (some (44, false)), .move (.t 14)⟩,
   ⟨(some 46), (some (44, false)), .bin .neq 25 (.t 45) (.c (.int .i64 0))⟩,
   ⟨(some 47), none, .pick (.t 44) (.c (.bool true)) (.t 46)⟩] (some [2, 3, 4, 11, 12, 13, 14, 47]))
 (.cond (.t 47)
  (.seq (.ops [⟨(some 48), none, .move (.t 12)⟩,
    ⟨(some 49), none, .move (.t 14)⟩,
    ⟨(some 50), none, .bin .eql 25 (.t 48) (.t 49)⟩,
    ⟨(some 10), none, .move (.t 50)⟩] (some [10]))
  .ret)
  .skip))
 (.seq (.ops [⟨(some 15), none, .move (.c (.int .u64 0))⟩,
   ⟨(some 16), none, .move (.c (.int .u64 0))⟩] (some [2, 3, 4, 11, 13, 15, 16]))
 (.seq (.ops [⟨(some 17), none, .move (.c (.int .u64 0))⟩,
   ⟨(some 18), none, .move (.c (.int .u64 0))⟩] (some [2, 3, 4, 11, 13, 15, 16, 17, 18]))
 (.seq (.seq (.ops [⟨(some 19), none, .move (.c (.int .i64 0))⟩] (some [2, 3, 4, 11, 13, 15, 16, 17, 18, 19]))
 (.block 0
  (.loop
   (.seq (.seq (.ops [⟨(some 51), none, .move (.t 19)⟩,
     ⟨(some 52), none, .move (.t 2)⟩,
     ⟨(some 53), none, .len (.t 52)⟩,
     ⟨(some 54), none, .bin .lss 3 (.t 51) (.t 53)⟩,
     ⟨(some 55), none, .move (.t 54)⟩,
     ⟨(some 56), (some (55, true)), .move (.t 19)⟩,
     ⟨(some 57), (some (55, true)), .move (.t 3)⟩,
     ⟨(some 58), (some (55, true)), .len (.t 57)⟩,
     ⟨(some 59), (some (55, true)), .bin .lss 3 (.t 56) (.t 58)⟩,
     ⟨(some 60), none, .pick (.t 55) (.t 59) (.c (.bool false))⟩,
     ⟨(some 61), none, .move (.t 60)⟩,
     ⟨(some 62), (some (61, true)), .move (.t 19)⟩,
     ⟨(some 63), (some (61, true)), .bin .lss 3 (.t 62) (.c (.int .i64 100))⟩,
     ⟨(some 64), none, .pick (.t 61) (.t 63) (.c (.bool false))⟩] (some [2, 3, 4, 11, 13, 15, 16, 17, 18, 19, 64]))
   (.cond (.t 64)
    .skip
    (.exit 0)))
   (.seq (.block 1
    (.seq (.ops [⟨(some 67), none, .move (.t 15)⟩,
      ⟨(some 68), none, .bin .add 28 (.t 67) (.c (.int .u64 1))⟩,
      ⟨(some 69), none, .move (.t 2)⟩,
      ⟨(some 70), none, .move (.t 19)⟩,
      ⟨(some 71), none, .indexAddr 1 (.t 69) (.t 70)⟩,
      ⟨(some 72), none, .load false 1 (.t 71)⟩,
      ⟨(some 73), none, .conv 5 28 (.t 72)⟩,
      ⟨(some 74), none, .bin .add 28 (.t 68) (.t 73)⟩,
      ⟨(some 15), none, .move (.t 74)⟩] (some [2, 3, 4, 11, 13, 15, 16, 17, 18, 19]))
    (.seq (.ops [⟨(some 75), none, .move (.t 16)⟩,
      ⟨(some 76), none, .bin .add 28 (.t 75) (.c (.int .u64 1))⟩,
      ⟨(some 77), none, .move (.t 3)⟩,
      ⟨(some 78), none, .move (.t 19)⟩,
      ⟨(some 79), none, .indexAddr 1 (.t 77) (.t 78)⟩,
      ⟨(some 80), none, .load false 1 (.t 79)⟩,
      ⟨(some 81), none, .conv 5 28 (.t 80)⟩,
      ⟨(some 82), none, .bin .add 28 (.t 76) (.t 81)⟩,
      ⟨(some 16), none, .move (.t 82)⟩] (some [2, 3, 4, 11, 13, 15, 16, 17, 18, 19]))
    (.seq (.ops [⟨(some 84), none, .move (.t 11)⟩,
      ⟨(some 85), none, .move (.t 15)⟩,
      ⟨(some 86), none, .call (.c (.func (.func 9) #[] #[])) [(.t 84), (.t 85)]⟩,
      ⟨(some 83), none, .move (.t 86)⟩,
      ⟨(some 87), none, .extract (.t 83) 0⟩,
      ⟨(some 88), none, .extract (.t 83) 1⟩,
      ⟨(some 20), none, .move (.t 87)⟩,
      ⟨(some 21), none, .move (.t 88)⟩] (some [2, 3, 4, 11, 13, 15, 16, 17, 18, 19, 20, 21]))
    (.seq (.ops [⟨(some 90), none, .move (.t 13)⟩,
      ⟨(some 91), none, .move (.t 16)⟩,
      ⟨(some 92), none, .call (.c (.func (.func 9) #[] #[])) [(.t 90), (.t 91)]⟩,
      ⟨(some 89), none, .move (.t 92)⟩,
      ⟨(some 93), none, .extract (.t 89) 0⟩,
      ⟨(some 94), none, .extract (.t 89) 1⟩,
      ⟨(some 22), none, .move (.t 93)⟩,
      ⟨(some 23), none, .move (.t 94)⟩] (some [2, 3, 4, 11, 13, 15, 16, 17, 18, 19, 20, 21, 22, 23]))
    (.seq (.seq (.ops [⟨(some 95), none, .move (.t 20)⟩,
      ⟨(some 96), none, .move (.t 22)⟩,
      ⟨(some 97), none, .bin .neq 3 (.t 95) (.t 96)⟩,
      ⟨(some 98), none, .move (.t 97)⟩,
      ⟨(some 99), (some (98, false)), .move (.t 21)⟩,
      ⟨(some 100), (some (98, false)), .move (.t 23)⟩,
      ⟨(some 101), (some (98, false)), .bin .neq 25 (.t 99) (.t 100)⟩,
      ⟨(some 102), none, .pick (.t 98) (.c (.bool true)) (.t 101)⟩] (some [2, 3, 4, 11, 13, 15, 16, 17, 18, 19, 102]))
    (.cond (.t 102)
     (.seq (.ops [⟨(some 10), none, .move (.c (.bool false))⟩] (some [10]))
     .ret)
     .skip))
    (.seq (.ops [⟨(some 103), none, .move (.t 19)⟩,
      ⟨(some 104), none, .move (.t 4)⟩,
      ⟨(some 105), none, .bin .eql 3 (.t 103) (.t 104)⟩] (some [2, 3, 4, 11, 13, 15, 16, 17, 18, 19, 105]))
    (.cond (.t 105)
     (.ops [⟨(some 106), none, .move (.t 15)⟩,
       ⟨(some 107), none, .move (.t 16)⟩,
       ⟨(some 17), none, .move (.t 106)⟩,
       ⟨(some 18), none, .move (.t 107)⟩] (some [2, 3, 4, 11, 13, 15, 16, 17, 18, 19]))
     .skip))))))))
   (.ops [⟨(some 65), none, .move (.t 19)⟩,
     ⟨(some 66), none, .bin .add 3 (.t 65) (.c (.int .i64 1))⟩,
     ⟨(some 19), none, .move (.t 66)⟩] (some [2, 3, 4, 11, 13, 15, 16, 17, 18, 19])))))))
 (.seq (.ops [⟨(some 109), none, .move (.t 11)⟩,
   ⟨(some 110), none, .move (.t 17)⟩,
   ⟨(some 111), none, .call (.c (.func (.func 10) #[] #[])) [(.t 109), (.t 110)]⟩,
   ⟨(some 108), none, .move (.t 111)⟩,
   ⟨(some 112), none, .extract (.t 108) 0⟩,
   ⟨(some 113), none, .extract (.t 108) 1⟩,
   ⟨(some 24), none, .move (.t 112)⟩,
   ⟨(some 25), none, .move (.t 113)⟩] (some [11, 13, 18, 24, 25]))
 (.seq (.ops [⟨(some 115), none, .move (.t 13)⟩,
   ⟨(some 116), none, .move (.t 18)⟩,
   ⟨(some 117), none, .call (.c (.func (.func 10) #[] #[])) [(.t 115), (.t 116)]⟩,
   ⟨(some 114), none, .move (.t 117)⟩,
   ⟨(some 118), none, .extract (.t 114) 0⟩,
   ⟨(some 119), none, .extract (.t 114) 1⟩,
   ⟨(some 26), none, .move (.t 118)⟩,
   ⟨(some 27), none, .move (.t 119)⟩] (some [11, 13, 24, 25, 26, 27]))
 (.seq (.ops [⟨(some 120), none, .move (.t 24)⟩,
   ⟨(some 121), none, .move (.t 26)⟩,
   ⟨(some 122), none, .bin .eql 3 (.t 120) (.t 121)⟩,
   ⟨(some 123), none, .move (.t 122)⟩,
   ⟨(some 124), (some (123, true)), .move (.t 25)⟩,
   ⟨(some 125), (some (123, true)), .move (.t 27)⟩,
   ⟨(some 126), (some (123, true)), .bin .eql 25 (.t 124) (.t 125)⟩,
   ⟨(some 127), none, .pick (.t 123) (.t 126) (.c (.bool false))⟩,
   ⟨(some 128), none, .move (.t 127)⟩,
   ⟨(some 129), (some (128, true)), .move (.t 11)⟩,
   ⟨(some 130), (some (128, true)), .call (.c (.func (.func 11) #[] #[])) [(.t 129)]⟩,
   ⟨(some 131), (some (128, true)), .move (.t 13)⟩,
   ⟨(some 132), (some (128, true)), .call (.c (.func (.func 11) #[] #[])) [(.t 131)]⟩,
   ⟨(some 133), (some (128, true)), .bin .eql 3 (.t 130) (.t 132)⟩,
   ⟨(some 134), none, .pick (.t 128) (.t 133) (.c (.bool false))⟩,
   ⟨(some 10), none, .move (.t 134)⟩] (some [10]))
 .ret))))))))))), [.tmp 10]⟩

/-- cloisonne/cloisonnelaw10.RingRises -/
def x4 : XDecl := .code ⟨5, 
 (.seq (.ops [⟨(some 10), none, .move (.c (.bool false))⟩] (some [0, 1, 2, 3, 4]))
 (.seq (.seq (.ops [⟨(some 19), none, .call (.c (.func (.func 7) #[] #[])) []⟩,
   ⟨(some 20), none, .un .not (.t 19)⟩] (some [0, 1, 2, 3, 4, 20]))
 (.cond (.t 20)
  (.seq (.ops [⟨(some 10), none, .move (.c (.bool false))⟩] (some [10]))
  .ret)
  .skip))
 (.seq (.ops [⟨(some 22), none, .move (.t 0)⟩,
   ⟨(some 23), none, .move (.t 1)⟩,
   ⟨(some 24), none, .call (.c (.func (.func 8) #[] #[])) [(.t 22), (.t 23)]⟩,
   ⟨(some 21), none, .move (.t 24)⟩,
   ⟨(some 25), none, .extract (.t 21) 0⟩,
   ⟨(some 26), none, .extract (.t 21) 1⟩,
   ⟨(some 11), none, .move (.t 25)⟩,
   ⟨(some 12), none, .move (.t 26)⟩] (some [2, 3, 4, 11, 12]))
 (.seq (.seq (.ops [⟨(some 27), none, .move (.t 12)⟩,
   ⟨(some 28), none, .bin .neq 25 (.t 27) (.c (.int .i64 0))⟩] (some [2, 3, 4, 11, 28]))
 (.cond (.t 28)
  (.seq (.ops [⟨(some 10), none, .move (.c (.bool true))⟩] (some [10]))
  .ret)
  .skip))
 (.seq (.ops [⟨(some 29), none, .move (.t 11)⟩,
   ⟨(some 30), none, .call (.c (.func (.func 11) #[] #[])) [(.t 29)]⟩,
   ⟨(some 13), none, .move (.t 30)⟩] (some [2, 3, 4, 11, 13]))
 (.seq (.seq (.ops [⟨(some 14), none, .move (.c (.int .i64 0))⟩] (some [2, 3, 4, 11, 13, 14]))
 (.block 0
  (.loop
   (.seq (.seq (.ops [⟨(some 31), none, .move (.t 14)⟩,
     ⟨(some 32), none, .move (.t 2)⟩,
     ⟨(some 33), none, .len (.t 32)⟩,
     ⟨(some 34), none, .bin .lss 3 (.t 31) (.t 33)⟩,
     ⟨(some 35), none, .move (.t 34)⟩,
     ⟨(some 36), (some (35, true)), .move (.t 14)⟩,
     ⟨(some 37), (some (35, true)), .bin .lss 3 (.t 36) (.c (.int .i64 100))⟩,
     ⟨(some 38), none, .pick (.t 35) (.t 37) (.c (.bool false))⟩] (some [2, 3, 4, 11, 13, 14, 38]))
   (.cond (.t 38)
    .skip
    (.exit 0)))
   (.seq (.block 1
    (.seq (.ops [⟨(some 41), none, .move (.t 11)⟩,
      ⟨(some 42), none, .move (.t 2)⟩,
      ⟨(some 43), none, .move (.t 14)⟩,
      ⟨(some 44), none, .indexAddr 1 (.t 42) (.t 43)⟩,
      ⟨(some 45), none, .load false 1 (.t 44)⟩,
      ⟨(some 46), none, .call (.c (.func (.func 9) #[] #[])) [(.t 41), (.t 45)]⟩] (some [2, 3, 4, 11, 13, 14]))
    (.seq (.ops [⟨(some 48), none, .move (.t 11)⟩,
      ⟨(some 49), none, .move (.t 3)⟩,
      ⟨(some 50), none, .move (.t 4)⟩,
      ⟨(some 51), none, .calcB .min [28, 28] 28 [(.t 49), (.t 50)]⟩,
      ⟨(some 52), none, .call (.c (.func (.func 10) #[] #[])) [(.t 48), (.t 51)]⟩,
      ⟨(some 47), none, .move (.t 52)⟩,
      ⟨(some 53), none, .extract (.t 47) 0⟩,
      ⟨(some 54), none, .extract (.t 47) 1⟩,
      ⟨(some 15), none, .move (.t 53)⟩,
      ⟨(some 16), none, .move (.t 54)⟩] (some [2, 3, 4, 11, 13, 14, 15, 16]))
    (.seq (.ops [⟨(some 56), none, .move (.t 11)⟩,
      ⟨(some 57), none, .move (.t 3)⟩,
      ⟨(some 58), none, .move (.t 4)⟩,
      ⟨(some 59), none, .calcB .max [28, 28] 28 [(.t 57), (.t 58)]⟩,
      ⟨(some 60), none, .call (.c (.func (.func 10) #[] #[])) [(.t 56), (.t 59)]⟩,
      ⟨(some 55), none, .move (.t 60)⟩,
      ⟨(some 61), none, .extract (.t 55) 0⟩,
      ⟨(some 62), none, .extract (.t 55) 1⟩,
      ⟨(some 17), none, .move (.t 61)⟩,
      ⟨(some 18), none, .move (.t 62)⟩] (some [2, 3, 4, 11, 13, 14, 15, 16, 17, 18]))
    (.seq (.seq (.ops [⟨(some 63), none, .move (.t 11)⟩,
      ⟨(some 64), none, .call (.c (.func (.func 11) #[] #[])) [(.t 63)]⟩,
      ⟨(some 65), none, .move (.t 13)⟩,
      ⟨(some 66), none, .bin .lss 3 (.t 64) (.t 65)⟩,
      ⟨(some 67), none, .move (.t 66)⟩,
      ⟨(some 68), (some (67, false)), .move (.t 16)⟩,
      ⟨(some 69), (some (67, false)), .bin .eql 25 (.t 68) (.c (.int .i64 0))⟩,
      ⟨(some 70), (some (67, false)), .move (.t 69)⟩,
      ⟨(some 71), (some (70, true)), .move (.t 15)⟩,
      ⟨(some 72), (some (70, true)), .move (.t 11)⟩,
      ⟨(some 73), (some (70, true)), .call (.c (.func (.func 11) #[] #[])) [(.t 72)]⟩,
      ⟨(some 74), (some (70, true)), .bin .lss 3 (.t 71) (.t 73)⟩,
      ⟨(some 75), (some (70, true)), .move (.t 74)⟩,
      ⟨(some 76), (some (75, false)), .move (.t 15)⟩,
      ⟨(some 77), (some (75, false)), .move (.t 11)⟩,
      ⟨(some 78), (some (75, false)), .call (.c (.func (.func 12) #[] #[])) [(.t 77)]⟩,
      ⟨(some 79), (some (75, false)), .bin .gtr 3 (.t 76) (.t 78)⟩,
      ⟨(some 80), (some (70, true)), .pick (.t 75) (.c (.bool true)) (.t 79)⟩,
      ⟨(some 81), (some (70, true)), .move (.t 80)⟩,
      ⟨(some 82), (some (81, false)), .move (.t 18)⟩,
      ⟨(some 83), (some (81, false)), .bin .neq 25 (.t 82) (.c (.int .i64 0))⟩,
      ⟨(some 84), (some (70, true)), .pick (.t 81) (.c (.bool true)) (.t 83)⟩,
      ⟨(some 85), (some (70, true)), .move (.t 84)⟩,
      ⟨(some 86), (some (85, false)), .move (.t 17)⟩,
      ⟨(some 87), (some (85, false)), .move (.t 15)⟩,
      ⟨(some 88), (some (85, false)), .bin .lss 3 (.t 86) (.t 87)⟩,
      ⟨(some 89), (some (70, true)), .pick (.t 85) (.c (.bool true)) (.t 88)⟩,
      ⟨(some 90), (some (67, false)), .pick (.t 70) (.t 89) (.c (.bool false))⟩,
      ⟨(some 91), none, .pick (.t 67) (.c (.bool true)) (.t 90)⟩] (some [2, 3, 4, 11, 14, 91]))
    (.cond (.t 91)
     (.seq (.ops [⟨(some 10), none, .move (.c (.bool false))⟩] (some [10]))
     .ret)
     .skip))
    (.ops [⟨(some 92), none, .move (.t 11)⟩,
      ⟨(some 93), none, .call (.c (.func (.func 11) #[] #[])) [(.t 92)]⟩,
      ⟨(some 13), none, .move (.t 93)⟩] (some [2, 3, 4, 11, 13, 14])))))))
   (.ops [⟨(some 39), none, .move (.t 14)⟩,
     ⟨(some 40), none, .bin .add 3 (.t 39) (.c (.int .i64 1))⟩,
     ⟨(some 14), none, .move (.t 40)⟩] (some [2, 3, 4, 11, 13, 14])))))))
 (.seq (.ops [⟨(some 94), none, .move (.t 13)⟩,
   ⟨(some 95), none, .move (.t 11)⟩,
   ⟨(some 96), none, .call (.c (.func (.func 12) #[] #[])) [(.t 95)]⟩,
   ⟨(some 97), none, .bin .leq 3 (.t 94) (.t 96)⟩,
   ⟨(some 10), none, .move (.t 97)⟩] (some [10]))
 .ret))))))), [.tmp 10]⟩

/-- cloisonne/cloisonnelaw10.RingPlays -/
def x5 : XDecl := .code ⟨4, 
 (.seq (.ops [⟨(some 8), none, .move (.c (.bool false))⟩] (some [0, 1, 2, 3]))
 (.seq (.seq (.ops [⟨(some 26), none, .call (.c (.func (.func 7) #[] #[])) []⟩,
   ⟨(some 27), none, .un .not (.t 26)⟩] (some [0, 1, 2, 3, 27]))
 (.cond (.t 27)
  (.seq (.ops [⟨(some 8), none, .move (.c (.bool false))⟩] (some [8]))
  .ret)
  .skip))
 (.seq (.ops [⟨(some 29), none, .move (.t 0)⟩,
   ⟨(some 30), none, .move (.t 1)⟩,
   ⟨(some 31), none, .call (.c (.func (.func 8) #[] #[])) [(.t 29), (.t 30)]⟩,
   ⟨(some 28), none, .move (.t 31)⟩,
   ⟨(some 32), none, .extract (.t 28) 0⟩,
   ⟨(some 33), none, .extract (.t 28) 1⟩,
   ⟨(some 9), none, .move (.t 32)⟩,
   ⟨(some 10), none, .move (.t 33)⟩] (some [0, 1, 2, 3, 9, 10]))
 (.seq (.seq (.ops [⟨(some 34), none, .move (.t 0)⟩,
   ⟨(some 35), none, .bin .lss 3 (.t 34) (.c (.int .i64 1))⟩,
   ⟨(some 36), none, .move (.t 35)⟩,
   ⟨(some 37), (some (36, false)), .move (.t 0)⟩,
   ⟨(some 38), (some (36, false)), .bin .gtr 3 (.t 37) (.c (.int .i64 16))⟩,
   ⟨(some 39), none, .pick (.t 36) (.c (.bool true)) (.t 38)⟩,
   ⟨(some 40), none, .move (.t 39)⟩,
   ⟨(some 41), (some (40, false)), .move (.t 1)⟩,
   ⟨(some 42), (some (40, false)), .bin .lss 3 (.t 41) (.c (.int .i64 0))⟩,
   ⟨(some 43), none, .pick (.t 40) (.c (.bool true)) (.t 42)⟩,
   ⟨(some 44), none, .move (.t 43)⟩,
   ⟨(some 45), (some (44, false)), .move (.t 1)⟩,
   ⟨(some 46), (some (44, false)), .bin .gtr 3 (.t 45) (.c (.int .i64 1073741824))⟩,
   ⟨(some 47), none, .pick (.t 44) (.c (.bool true)) (.t 46)⟩] (some [0, 1, 2, 3, 9, 10, 47]))
 (.cond (.t 47)
  (.seq (.ops [⟨(some 48), none, .move (.t 9)⟩,
    ⟨(some 49), none, .isNil .ptr false (.t 48)⟩,
    ⟨(some 50), none, .move (.t 49)⟩,
    ⟨(some 51), (some (50, true)), .move (.t 10)⟩,
    ⟨(some 52), (some (50, true)), .bin .eql 25 (.t 51) (.c (.int .i64 1))⟩,
    ⟨(some 53), none, .pick (.t 50) (.t 52) (.c (.bool false))⟩,
    ⟨(some 8), none, .move (.t 53)⟩] (some [8]))
  .ret)
  .skip))
 (.seq (.ops [⟨(some 54), none, .move (.t 0)⟩,
   ⟨(some 55), none, .move (.t 1)⟩,
   ⟨(some 56), none, .build [(.int .i64 0), (.int .i64 0), (.slice none 0 0)] [(0, 1), (1, 1), (2, 1)] [(0, (.t 54)), (1, (.t 55))]⟩,
   ⟨(some 57), none, .box (.t 56)⟩,
   ⟨(some 11), none, .move (.t 57)⟩] (some [0, 1, 2, 3, 9, 11]))
 (.seq (.seq (.ops [⟨(some 12), none, .move (.c (.int .i64 0))⟩] (some [0, 1, 2, 3, 9, 11, 12]))
 (.block 0
  (.loop
   (.seq (.seq (.ops [⟨(some 58), none, .move (.t 12)⟩,
     ⟨(some 59), none, .move (.t 2)⟩,
     ⟨(some 60), none, .len (.t 59)⟩,
     ⟨(some 61), none, .bin .lss 3 (.t 58) (.t 60)⟩,
     ⟨(some 62), none, .move (.t 61)⟩,
     ⟨(some 63), (some (62, true)), .move (.t 12)⟩,
     ⟨(some 64), (some (62, true)), .bin .lss 3 (.t 63) (.c (.int .i64 100))⟩,
     ⟨(some 65), none, .pick (.t 62) (.t 64) (.c (.bool false))⟩] (some [0, 1, 2, 3, 9, 11, 12, 65]))
   (.cond (.t 65)
    .skip
    (.exit 0)))
   (.seq (.block 1
    (.seq (.ops [⟨(some 68), none, .move (.t 9)⟩,
      ⟨(some 69), none, .call (.c (.func (.func 13) #[] #[])) [(.t 68)]⟩,
      ⟨(some 13), none, .move (.t 69)⟩] (some [0, 1, 2, 3, 9, 11, 12, 13]))
    (.seq (.ops [⟨(some 70), none, .move (.t 11)⟩,
      ⟨(some 71), none, .call (.c (.func (.func 14) #[] #[])) [(.t 70)]⟩,
      ⟨(some 14), none, .move (.t 71)⟩] (some [0, 1, 2, 3, 9, 11, 12, 13, 14]))
    (.seq (.ops [⟨(some 73), none, .move (.t 9)⟩,
      ⟨(some 74), none, .move (.t 2)⟩,
      ⟨(some 75), none, .move (.t 12)⟩,
      ⟨(some 76), none, .indexAddr 1 (.t 74) (.t 75)⟩,
      ⟨(some 77), none, .load false 1 (.t 76)⟩,
      ⟨(some 78), none, .call (.c (.func (.func 9) #[] #[])) [(.t 73), (.t 77)]⟩,
      ⟨(some 72), none, .move (.t 78)⟩,
      ⟨(some 79), none, .extract (.t 72) 0⟩,
      ⟨(some 80), none, .extract (.t 72) 1⟩,
      ⟨(some 15), none, .move (.t 79)⟩,
      ⟨(some 16), none, .move (.t 80)⟩] (some [0, 1, 2, 3, 9, 11, 12, 13, 14, 15, 16]))
    (.seq (.ops [⟨(some 82), none, .move (.t 11)⟩,
      ⟨(some 83), none, .move (.t 2)⟩,
      ⟨(some 84), none, .move (.t 12)⟩,
      ⟨(some 85), none, .indexAddr 1 (.t 83) (.t 84)⟩,
      ⟨(some 86), none, .load false 1 (.t 85)⟩,
      ⟨(some 87), none, .call (.c (.func (.func 15) #[] #[])) [(.t 82), (.t 86)]⟩,
      ⟨(some 81), none, .move (.t 87)⟩,
      ⟨(some 88), none, .extract (.t 81) 0⟩,
      ⟨(some 89), none, .extract (.t 81) 1⟩,
      ⟨(some 17), none, .move (.t 88)⟩,
      ⟨(some 18), none, .move (.t 89)⟩] (some [0, 1, 2, 3, 9, 11, 12, 13, 14, 15, 16, 17, 18]))
    (.seq (.seq (.ops [⟨(some 90), none, .move (.t 15)⟩,
      ⟨(some 91), none, .move (.t 17)⟩,
      ⟨(some 92), none, .bin .neq 3 (.t 90) (.t 91)⟩,
      ⟨(some 93), none, .move (.t 92)⟩,
      ⟨(some 94), (some (93, false)), .move (.t 16)⟩,
      ⟨(some 95), (some (93, false)), .move (.t 18)⟩,
      ⟨(some 96), (some (93, false)), .bin .neq 25 (.t 94) (.t 95)⟩,
      ⟨(some 97), none, .pick (.t 93) (.c (.bool true)) (.t 96)⟩,
      ⟨(some 98), none, .move (.t 97)⟩,
      ⟨(some 99), (some (98, false)), .move (.t 9)⟩,
      ⟨(some 100), (some (98, false)), .call (.c (.func (.func 12) #[] #[])) [(.t 99)]⟩,
      ⟨(some 101), (some (98, false)), .move (.t 11)⟩,
      ⟨(some 102), (some (98, false)), .call (.c (.func (.func 14) #[] #[])) [(.t 101)]⟩,
      ⟨(some 103), (some (98, false)), .bin .neq 3 (.t 100) (.t 102)⟩,
      ⟨(some 104), none, .pick (.t 98) (.c (.bool true)) (.t 103)⟩,
      ⟨(some 105), none, .move (.t 104)⟩,
      ⟨(some 106), (some (105, false)), .move (.t 9)⟩,
      ⟨(some 107), (some (105, false)), .call (.c (.func (.func 16) #[] #[])) [(.t 106)]⟩,
      ⟨(some 108), (some (105, false)), .move (.t 0)⟩,
      ⟨(some 109), (some (105, false)), .bin .neq 3 (.t 107) (.t 108)⟩,
      ⟨(some 110), none, .pick (.t 105) (.c (.bool true)) (.t 109)⟩,
      ⟨(some 111), none, .move (.t 110)⟩,
      ⟨(some 112), (some (111, false)), .move (.t 13)⟩,
      ⟨(some 113), (some (111, false)), .call (.c (.func (.func 12) #[] #[])) [(.t 112)]⟩,
      ⟨(some 114), (some (111, false)), .move (.t 14)⟩,
      ⟨(some 115), (some (111, false)), .bin .neq 3 (.t 113) (.t 114)⟩,
      ⟨(some 116), none, .pick (.t 111) (.c (.bool true)) (.t 115)⟩] (some [0, 1, 2, 3, 9, 11, 12, 116]))
    (.cond (.t 116)
     (.seq (.ops [⟨(some 8), none, .move (.c (.bool false))⟩] (some [8]))
     .ret)
     .skip))
    (.seq (.seq (.ops [⟨(some 19), none, .move (.c (.int .i64 0))⟩] (some [0, 1, 2, 3, 9, 11, 12, 19]))
    (.block 2
     (.loop
      (.seq (.seq (.ops [⟨(some 117), none, .move (.t 19)⟩,
        ⟨(some 118), none, .move (.t 3)⟩,
        ⟨(some 119), none, .len (.t 118)⟩,
        ⟨(some 120), none, .bin .leq 3 (.t 117) (.t 119)⟩,
        ⟨(some 121), none, .move (.t 120)⟩,
        ⟨(some 122), (some (121, true)), .move (.t 19)⟩,
        ⟨(some 123), (some (121, true)), .bin .leq 3 (.t 122) (.c (.int .i64 10))⟩,
        ⟨(some 124), none, .pick (.t 121) (.t 123) (.c (.bool false))⟩] (some [0, 1, 2, 3, 9, 11, 12, 19, 124]))
      (.cond (.t 124)
       .skip
       (.exit 2)))
      (.seq (.block 3
       (.seq (.ops [⟨(some 127), none, .move (.t 2)⟩,
         ⟨(some 128), none, .move (.t 12)⟩,
         ⟨(some 129), none, .indexAddr 1 (.t 127) (.t 128)⟩,
         ⟨(some 130), none, .load false 1 (.t 129)⟩,
         ⟨(some 20), none, .move (.t 130)⟩] (some [0, 1, 2, 3, 9, 11, 12, 19, 20]))
       (.seq (.seq (.ops [⟨(some 131), none, .move (.t 19)⟩,
         ⟨(some 132), none, .move (.t 3)⟩,
         ⟨(some 133), none, .len (.t 132)⟩,
         ⟨(some 134), none, .bin .lss 3 (.t 131) (.t 133)⟩,
         ⟨(some 135), none, .move (.t 134)⟩,
         ⟨(some 136), (some (135, true)), .move (.t 19)⟩,
         ⟨(some 137), (some (135, true)), .bin .lss 3 (.t 136) (.c (.int .i64 10))⟩,
         ⟨(some 138), none, .pick (.t 135) (.t 137) (.c (.bool false))⟩] (some [0, 1, 2, 3, 9, 11, 12, 19, 20, 138]))
       (.cond (.t 138)
        (.ops [⟨(some 139), none, .move (.t 3)⟩,
          ⟨(some 140), none, .move (.t 19)⟩,
          ⟨(some 141), none, .indexAddr 1 (.t 139) (.t 140)⟩,
          ⟨(some 142), none, .load false 1 (.t 141)⟩,
          ⟨(some 20), none, .move (.t 142)⟩] (some [0, 1, 2, 3, 9, 11, 12, 19, 20]))
        .skip))
       (.seq (.ops [⟨(some 144), none, .move (.t 9)⟩,
         ⟨(some 145), none, .move (.t 20)⟩,
         ⟨(some 146), none, .call (.c (.func (.func 10) #[] #[])) [(.t 144), (.t 145)]⟩,
         ⟨(some 143), none, .move (.t 146)⟩,
         ⟨(some 147), none, .extract (.t 143) 0⟩,
         ⟨(some 148), none, .extract (.t 143) 1⟩,
         ⟨(some 21), none, .move (.t 147)⟩,
         ⟨(some 22), none, .move (.t 148)⟩] (some [0, 1, 2, 3, 9, 11, 12, 19, 20, 21, 22]))
       (.seq (.ops [⟨(some 150), none, .move (.t 11)⟩,
         ⟨(some 151), none, .move (.t 20)⟩,
         ⟨(some 152), none, .call (.c (.func (.func 17) #[] #[])) [(.t 150), (.t 151)]⟩,
         ⟨(some 149), none, .move (.t 152)⟩,
         ⟨(some 153), none, .extract (.t 149) 0⟩,
         ⟨(some 154), none, .extract (.t 149) 1⟩,
         ⟨(some 23), none, .move (.t 153)⟩,
         ⟨(some 24), none, .move (.t 154)⟩] (some [0, 1, 2, 3, 9, 11, 12, 19, 21, 22, 23, 24]))
       (.seq (.ops [⟨(some 155), none, .move (.t 21)⟩,
         ⟨(some 156), none, .move (.t 23)⟩,
         ⟨(some 157), none, .bin .neq 3 (.t 155) (.t 156)⟩,
         ⟨(some 158), none, .move (.t 157)⟩,
         ⟨(some 159), (some (158, false)), .move (.t 22)⟩,
         ⟨(some 160), (some (158, false)), .move (.t 24)⟩,
         ⟨(some 161), (some (158, false)), .bin .neq 25 (.t 159) (.t 160)⟩,
         ⟨(some 162), none, .pick (.t 158) (.c (.bool true)) (.t 161)⟩] (some [0, 1, 2, 3, 9, 11, 12, 19, 162]))
       (.cond (.t 162)
        (.seq (.ops [⟨(some 8), none, .move (.c (.bool false))⟩] (some [8]))
        .ret)
        .skip)))))))
      (.ops [⟨(some 125), none, .move (.t 19)⟩,
        ⟨(some 126), none, .bin .add 3 (.t 125) (.c (.int .i64 1))⟩,
        ⟨(some 19), none, .move (.t 126)⟩] (some [0, 1, 2, 3, 9, 11, 12, 19])))))))
    (.seq (.ops [⟨(some 163), none, .move (.t 11)⟩,
      ⟨(some 164), none, .call (.c (.func (.func 14) #[] #[])) [(.t 163)]⟩,
      ⟨(some 165), none, .move (.t 0)⟩,
      ⟨(some 166), none, .bin .sub 3 (.t 164) (.t 165)⟩,
      ⟨(some 167), none, .bin .add 3 (.t 166) (.c (.int .i64 1))⟩,
      ⟨(some 25), none, .move (.t 167)⟩] (some [0, 1, 2, 3, 9, 11, 12, 25]))
    (.seq (.seq (.ops [⟨(some 168), none, .move (.t 25)⟩,
      ⟨(some 169), none, .move (.t 1)⟩,
      ⟨(some 170), none, .bin .lss 3 (.t 168) (.t 169)⟩] (some [0, 1, 2, 3, 9, 11, 12, 25, 170]))
    (.cond (.t 170)
     (.ops [⟨(some 171), none, .move (.t 1)⟩,
       ⟨(some 25), none, .move (.t 171)⟩] (some [0, 1, 2, 3, 9, 11, 12, 25]))
     .skip))
    (.seq (.ops [⟨(some 172), none, .move (.t 9)⟩,
      ⟨(some 173), none, .call (.c (.func (.func 11) #[] #[])) [(.t 172)]⟩,
      ⟨(some 174), none, .move (.t 25)⟩,
      ⟨(some 175), none, .bin .neq 3 (.t 173) (.t 174)⟩] (some [0, 1, 2, 3, 9, 11, 12, 175]))
    (.cond (.t 175)
     (.seq (.ops [⟨(some 8), none, .move (.c (.bool false))⟩] (some [8]))
     .ret)
     .skip)))))))))))
   (.ops [⟨(some 66), none, .move (.t 12)⟩,
     ⟨(some 67), none, .bin .add 3 (.t 66) (.c (.int .i64 1))⟩,
     ⟨(some 12), none, .move (.t 67)⟩] (some [0, 1, 2, 3, 9, 11, 12])))))))
 (.seq (.ops [⟨(some 8), none, .move (.c (.bool true))⟩] (some [8]))
 .ret))))))), [.tmp 8]⟩

/-- cloisonne/cloisonnelaw10.RingNil -/
def x6 : XDecl := .code ⟨1, 
 (.seq (.ops [⟨(some 2), none, .move (.c (.bool false))⟩] (some [0]))
 (.seq (.seq (.ops [⟨(some 8), none, .call (.c (.func (.func 7) #[] #[])) []⟩,
   ⟨(some 9), none, .un .not (.t 8)⟩] (some [0, 9]))
 (.cond (.t 9)
  (.seq (.ops [⟨(some 2), none, .move (.c (.bool false))⟩] (some [2]))
  .ret)
  .skip))
 (.seq (.ops [⟨(some 3), none, .move (.c (.pointer none))⟩] (some [0, 3]))
 (.seq (.ops [⟨(some 11), none, .move (.t 3)⟩,
   ⟨(some 12), none, .move (.t 0)⟩,
   ⟨(some 13), none, .call (.c (.func (.func 9) #[] #[])) [(.t 11), (.t 12)]⟩,
   ⟨(some 10), none, .move (.t 13)⟩,
   ⟨(some 14), none, .extract (.t 10) 0⟩,
   ⟨(some 15), none, .extract (.t 10) 1⟩,
   ⟨(some 4), none, .move (.t 14)⟩,
   ⟨(some 5), none, .move (.t 15)⟩] (some [0, 3, 4, 5]))
 (.seq (.ops [⟨(some 17), none, .move (.t 3)⟩,
   ⟨(some 18), none, .move (.t 0)⟩,
   ⟨(some 19), none, .call (.c (.func (.func 10) #[] #[])) [(.t 17), (.t 18)]⟩,
   ⟨(some 16), none, .move (.t 19)⟩,
   ⟨(some 20), none, .extract (.t 16) 0⟩,
   ⟨(some 21), none, .extract (.t 16) 1⟩,
   ⟨(some 6), none, .move (.t 20)⟩,
   ⟨(some 7), none, .move (.t 21)⟩] (some [3, 4, 5, 6, 7]))
 (.seq (.ops [⟨(some 22), none, .move (.t 4)⟩,
   ⟨(some 23), none, .bin .eql 3 (.t 22) (.c (.int .i64 0))⟩,
   ⟨(some 24), none, .move (.t 23)⟩,
   ⟨(some 25), (some (24, true)), .move (.t 5)⟩,
   ⟨(some 26), (some (24, true)), .bin .eql 25 (.t 25) (.c (.int .i64 2))⟩,
   ⟨(some 27), none, .pick (.t 24) (.t 26) (.c (.bool false))⟩,
   ⟨(some 28), none, .move (.t 27)⟩,
   ⟨(some 29), (some (28, true)), .move (.t 6)⟩,
   ⟨(some 30), (some (28, true)), .bin .eql 3 (.t 29) (.c (.int .i64 0))⟩,
   ⟨(some 31), none, .pick (.t 28) (.t 30) (.c (.bool false))⟩,
   ⟨(some 32), none, .move (.t 31)⟩,
   ⟨(some 33), (some (32, true)), .move (.t 7)⟩,
   ⟨(some 34), (some (32, true)), .bin .eql 25 (.t 33) (.c (.int .i64 2))⟩,
   ⟨(some 35), none, .pick (.t 32) (.t 34) (.c (.bool false))⟩,
   ⟨(some 36), none, .move (.t 35)⟩,
   ⟨(some 37), (some (36, true)), .move (.t 3)⟩,
   ⟨(some 38), (some (36, true)), .call (.c (.func (.func 12) #[] #[])) [(.t 37)]⟩,
   ⟨(some 39), (some (36, true)), .bin .eql 3 (.t 38) (.c (.int .i64 0))⟩,
   ⟨(some 40), none, .pick (.t 36) (.t 39) (.c (.bool false))⟩,
   ⟨(some 41), none, .move (.t 40)⟩,
   ⟨(some 42), (some (41, true)), .move (.t 3)⟩,
   ⟨(some 43), (some (41, true)), .call (.c (.func (.func 16) #[] #[])) [(.t 42)]⟩,
   ⟨(some 44), (some (41, true)), .bin .eql 3 (.t 43) (.c (.int .i64 0))⟩,
   ⟨(some 45), none, .pick (.t 41) (.t 44) (.c (.bool false))⟩,
   ⟨(some 46), none, .move (.t 45)⟩,
   ⟨(some 47), (some (46, true)), .move (.t 3)⟩,
   ⟨(some 48), (some (46, true)), .call (.c (.func (.func 11) #[] #[])) [(.t 47)]⟩,
   ⟨(some 49), (some (46, true)), .bin .eql 3 (.t 48) (.c (.int .i64 0))⟩,
   ⟨(some 50), none, .pick (.t 46) (.t 49) (.c (.bool false))⟩,
   ⟨(some 51), none, .move (.t 50)⟩,
   ⟨(some 52), (some (51, true)), .move (.t 3)⟩,
   ⟨(some 53), (some (51, true)), .call (.c (.func (.func 13) #[] #[])) [(.t 52)]⟩,
   ⟨(some 54), (some (51, true)), .isNil .ptr false (.t 53)⟩,
   ⟨(some 55), none, .pick (.t 51) (.t 54) (.c (.bool false))⟩,
   ⟨(some 2), none, .move (.t 55)⟩] (some [2]))
 .ret)))))), [.tmp 2]⟩

/-- cloisonne/cloisonnelaw10.awake -/
def x7 : XDecl := .code ⟨0, 
 (.seq (.ops [⟨(some 0), none, .move (.c (.bool false))⟩] (some []))
 (.seq (.ops [⟨(some 8), none, .call (.c (.func (.func 8) #[] #[])) [(.c (.int .i64 2)), (.c (.int .i64 0))]⟩,
   ⟨(some 7), none, .move (.t 8)⟩,
   ⟨(some 9), none, .extract (.t 7) 0⟩,
   ⟨(some 10), none, .extract (.t 7) 1⟩,
   ⟨(some 1), none, .move (.t 9)⟩,
   ⟨(some 2), none, .move (.t 10)⟩] (some [1, 2]))
 (.seq (.ops [⟨(some 11), none, .move (.t 1)⟩,
   ⟨(some 12), none, .call (.c (.func (.func 9) #[] #[])) [(.t 11), (.c (.int .u64 5))]⟩] (some [1, 2]))
 (.seq (.ops [⟨(some 13), none, .move (.t 1)⟩,
   ⟨(some 14), none, .call (.c (.func (.func 9) #[] #[])) [(.t 13), (.c (.int .u64 7))]⟩] (some [1, 2]))
 (.seq (.ops [⟨(some 15), none, .move (.t 1)⟩,
   ⟨(some 16), none, .call (.c (.func (.func 9) #[] #[])) [(.t 15), (.c (.int .u64 9))]⟩] (some [1, 2]))
 (.seq (.ops [⟨(some 18), none, .move (.t 1)⟩,
   ⟨(some 19), none, .call (.c (.func (.func 10) #[] #[])) [(.t 18), (.c (.int .u64 7))]⟩,
   ⟨(some 17), none, .move (.t 19)⟩,
   ⟨(some 20), none, .extract (.t 17) 0⟩,
   ⟨(some 21), none, .extract (.t 17) 1⟩,
   ⟨(some 3), none, .move (.t 20)⟩,
   ⟨(some 4), none, .move (.t 21)⟩] (some [1, 2, 3, 4]))
 (.seq (.ops [⟨(some 23), none, .move (.t 1)⟩,
   ⟨(some 24), none, .call (.c (.func (.func 10) #[] #[])) [(.t 23), (.c (.int .u64 6))]⟩,
   ⟨(some 22), none, .move (.t 24)⟩,
   ⟨(some 25), none, .extract (.t 22) 0⟩,
   ⟨(some 26), none, .extract (.t 22) 1⟩,
   ⟨(some 5), none, .move (.t 25)⟩,
   ⟨(some 6), none, .move (.t 26)⟩] (some [2, 3, 4, 6]))
 (.seq (.ops [⟨(some 27), none, .move (.t 2)⟩,
   ⟨(some 28), none, .bin .eql 25 (.t 27) (.c (.int .i64 0))⟩,
   ⟨(some 29), none, .move (.t 28)⟩,
   ⟨(some 30), (some (29, true)), .move (.t 3)⟩,
   ⟨(some 31), (some (29, true)), .bin .eql 3 (.t 30) (.c (.int .i64 2))⟩,
   ⟨(some 32), none, .pick (.t 29) (.t 31) (.c (.bool false))⟩,
   ⟨(some 33), none, .move (.t 32)⟩,
   ⟨(some 34), (some (33, true)), .move (.t 4)⟩,
   ⟨(some 35), (some (33, true)), .bin .eql 25 (.t 34) (.c (.int .i64 0))⟩,
   ⟨(some 36), none, .pick (.t 33) (.t 35) (.c (.bool false))⟩,
   ⟨(some 37), none, .move (.t 36)⟩,
   ⟨(some 38), (some (37, true)), .move (.t 6)⟩,
   ⟨(some 39), (some (37, true)), .bin .eql 25 (.t 38) (.c (.int .i64 14))⟩,
   ⟨(some 40), none, .pick (.t 37) (.t 39) (.c (.bool false))⟩,
   ⟨(some 0), none, .move (.t 40)⟩] (some [0]))
 .ret)))))))), [.tmp 0]⟩

/-- cloisonne/ring.New -/
def x8 : XDecl := .code ⟨2, 
 (.seq (.ops [⟨(some 4), none, .move (.c (.pointer none))⟩,
   ⟨(some 5), none, .move (.c (.int .i64 0))⟩] (some [0, 1]))
 (.seq (.seq (.ops [⟨(some 6), none, .move (.t 0)⟩,
   ⟨(some 7), none, .bin .lss 3 (.t 6) (.c (.int .i64 1))⟩,
   ⟨(some 8), none, .move (.t 7)⟩,
   ⟨(some 9), (some (8, false)), .move (.t 0)⟩,
   ⟨(some 10), (some (8, false)), .bin .gtr 3 (.t 9) (.c (.int .i64 16))⟩,
   ⟨(some 11), none, .pick (.t 8) (.c (.bool true)) (.t 10)⟩,
   ⟨(some 12), none, .move (.t 11)⟩,
   ⟨(some 13), (some (12, false)), .move (.t 1)⟩,
   ⟨(some 14), (some (12, false)), .bin .lss 3 (.t 13) (.c (.int .i64 0))⟩,
   ⟨(some 15), none, .pick (.t 12) (.c (.bool true)) (.t 14)⟩,
   ⟨(some 16), none, .move (.t 15)⟩,
   ⟨(some 17), (some (16, false)), .move (.t 1)⟩,
   ⟨(some 18), (some (16, false)), .bin .gtr 3 (.t 17) (.c (.int .i64 1073741824))⟩,
   ⟨(some 19), none, .pick (.t 16) (.c (.bool true)) (.t 18)⟩] (some [0, 1, 19]))
 (.cond (.t 19)
  (.seq (.ops [⟨(some 4), none, .move (.c (.pointer none))⟩,
    ⟨(some 5), none, .move (.c (.int .i64 1))⟩] (some [4, 5]))
  .ret)
  .skip))
 (.seq (.ops [⟨(some 20), none, .move (.t 0)⟩,
   ⟨(some 21), none, .move (.t 1)⟩,
   ⟨(some 22), none, .move (.t 1)⟩,
   ⟨(some 23), none, .build [(.int .i64 0), (.int .i64 0), (.int .i64 0), (.slice none 0 0)] [(0, 1), (1, 1), (2, 1), (3, 1)] [(0, (.t 20)), (1, (.t 21)), (2, (.t 22))]⟩,
   ⟨(some 24), none, .box (.t 23)⟩,
   ⟨(some 4), none, .move (.t 24)⟩,
   ⟨(some 5), none, .move (.c (.int .i64 0))⟩] (some [4, 5]))
 .ret))), [.tmp 4, .tmp 5]⟩

/-- (*cloisonne/ring.Ring).Push -/
def x9 : XDecl := .code ⟨2, 
 (.seq (.ops [⟨(some 4), none, .move (.c (.int .i64 0))⟩,
   ⟨(some 5), none, .move (.c (.int .i64 0))⟩] (some [0, 1]))
 (.seq (.block 0
  (.seq (.ops [⟨(some 8), none, .move (.t 0)⟩,
    ⟨(some 9), none, .isNil .ptr false (.t 8)⟩,
    ⟨(some 7), none, .move (.t 9)⟩] (some [0, 1, 7]))
  (.cond (.t 7)
   (.seq (.ops [⟨(some 4), none, .move (.c (.int .i64 0))⟩,
     ⟨(some 5), none, .move (.c (.int .i64 2))⟩] (some [4, 5]))
   .ret)
   (.seq (.ops [⟨(some 11), none, .move (.t 1)⟩,
     ⟨(some 12), none, .move (.t 0)⟩,
     ⟨(some 13), none, .call (.c (.func (.func 18) #[] #[])) [(.t 12)]⟩,
     ⟨(some 14), none, .bin .leq 28 (.t 11) (.t 13)⟩,
     ⟨(some 10), none, .move (.t 14)⟩] (some [0, 1, 10]))
   (.cond (.t 10)
    (.seq (.ops [⟨(some 4), none, .move (.c (.int .i64 0))⟩,
      ⟨(some 5), none, .move (.c (.int .i64 1))⟩] (some [4, 5]))
    .ret)
    (.seq (.ops [⟨(some 16), none, .move (.t 0)⟩,
      ⟨(some 17), none, .nilCheck (.t 16)⟩,
      ⟨(some 18), none, .fieldAddr 2 (.t 17)⟩,
      ⟨(some 19), none, .load false 1 (.t 18)⟩,
      ⟨(some 20), none, .bin .geq 3 (.t 19) (.c (.int .i64 1073741824))⟩,
      ⟨(some 15), none, .move (.t 20)⟩] (some [0, 1, 15]))
    (.cond (.t 15)
     (.seq (.ops [⟨(some 4), none, .move (.c (.int .i64 0))⟩,
       ⟨(some 5), none, .move (.c (.int .i64 17))⟩] (some [4, 5]))
     .ret)
     .skip)))))))
 (.seq (.ops [⟨(some 21), none, .move (.t 0)⟩,
   ⟨(some 22), none, .nilCheck (.t 21)⟩,
   ⟨(some 23), none, .fieldAddr 2 (.t 22)⟩,
   ⟨(some 24), none, .load false 1 (.t 23)⟩,
   ⟨(some 25), none, .bin .add 3 (.t 24) (.c (.int .i64 1))⟩,
   ⟨(some 26), none, .nilCheck (.t 21)⟩,
   ⟨(some 27), none, .fieldAddr 2 (.t 26)⟩,
   ⟨none, none, .store 1 (.t 27) (.t 25)⟩] (some [0, 1]))
 (.seq (.ops [⟨(some 28), none, .move (.t 0)⟩,
   ⟨(some 29), none, .move (.t 0)⟩,
   ⟨(some 30), none, .nilCheck (.t 29)⟩,
   ⟨(some 31), none, .fieldAddr 3 (.t 30)⟩,
   ⟨(some 32), none, .load false 1 (.t 31)⟩,
   ⟨(some 33), none, .move (.t 1)⟩,
   ⟨(some 34), none, .buildSlice [(.int .u64 0)] 1 1 [(0, (.t 33))]⟩,
   ⟨(some 35), none, .append 1 8 [(.int .u64 0)] (.t 32) (.t 34)⟩,
   ⟨(some 36), none, .nilCheck (.t 28)⟩,
   ⟨(some 37), none, .fieldAddr 3 (.t 36)⟩,
   ⟨none, none, .store 1 (.t 37) (.t 35)⟩] (some [0]))
 (.seq (.seq (.opsr [⟨(some 38), none, .move (.t 0)⟩,
   ⟨(some 39), none, .nilCheck (.t 38)⟩,
   ⟨(some 40), none, .fieldAddr 3 (.t 39)⟩,
   ⟨(some 41), none, .load false 1 (.t 40)⟩,
   ⟨(some 42), none, .len (.t 41)⟩,
   ⟨(some 43), none, .move (.t 0)⟩,
   ⟨(some 44), none, .nilCheck (.t 43)⟩,
   ⟨(some 45), none, .fieldAddr 0 (.t 44)⟩,
   ⟨(some 46), none, .load false 1 (.t 45)⟩,
   ⟨(some 47), none, .bin .sub 3 (.t 42) (.t 46)⟩,
   ⟨(some 6), none, .move (.t 47)⟩] (some [0, 6]))
 (.seq (.ops [⟨(some 48), none, .move (.t 6)⟩,
   ⟨(some 49), none, .bin .gtr 3 (.t 48) (.c (.int .i64 0))⟩] (some [0, 6, 49]))
 (.cond (.t 49)
  (.ops [⟨(some 50), none, .move (.t 0)⟩,
    ⟨(some 51), none, .move (.t 0)⟩,
    ⟨(some 52), none, .nilCheck (.t 51)⟩,
    ⟨(some 53), none, .fieldAddr 3 (.t 52)⟩,
    ⟨(some 54), none, .load false 1 (.t 53)⟩,
    ⟨(some 55), none, .move (.t 6)⟩,
    ⟨(some 56), none, .call (.c (.func (.func 19) #[] #[])) [(.t 54), (.c (.int .i64 0)), (.t 55)]⟩,
    ⟨(some 57), none, .nilCheck (.t 50)⟩,
    ⟨(some 58), none, .fieldAddr 3 (.t 57)⟩,
    ⟨none, none, .store 1 (.t 58) (.t 56)⟩] (some [0]))
  .skip)))
 (.seq (.ops [⟨(some 59), none, .move (.t 0)⟩,
   ⟨(some 60), none, .nilCheck (.t 59)⟩,
   ⟨(some 61), none, .fieldAddr 2 (.t 60)⟩,
   ⟨(some 62), none, .load false 1 (.t 61)⟩,
   ⟨(some 4), none, .move (.t 62)⟩,
   ⟨(some 5), none, .move (.c (.int .i64 0))⟩] (some [4, 5]))
 .ret)))))), [.tmp 4, .tmp 5]⟩

/-- (*cloisonne/ring.Ring).AsOf -/
def x10 : XDecl := .code ⟨2, 
 (.seq (.ops [⟨(some 4), none, .move (.c (.int .i64 0))⟩,
   ⟨(some 5), none, .move (.c (.int .i64 0))⟩] (some [0, 1]))
 (.seq (.seq (.ops [⟨(some 9), none, .move (.t 0)⟩,
   ⟨(some 10), none, .isNil .ptr false (.t 9)⟩] (some [0, 1, 10]))
 (.cond (.t 10)
  (.seq (.ops [⟨(some 4), none, .move (.c (.int .i64 0))⟩,
    ⟨(some 5), none, .move (.c (.int .i64 2))⟩] (some [4, 5]))
  .ret)
  .skip))
 (.seq (.ops [⟨(some 12), none, .move (.t 0)⟩,
   ⟨(some 13), none, .nilCheck (.t 12)⟩,
   ⟨(some 14), none, .fieldAddr 3 (.t 13)⟩,
   ⟨(some 15), none, .load false 1 (.t 14)⟩,
   ⟨(some 16), none, .move (.t 1)⟩,
   ⟨(some 17), none, .call (.c (.func (.func 20) #[] #[])) [(.t 15), (.t 16)]⟩,
   ⟨(some 11), none, .move (.t 17)⟩,
   ⟨(some 18), none, .extract (.t 11) 0⟩,
   ⟨(some 19), none, .extract (.t 11) 1⟩,
   ⟨(some 6), none, .move (.t 18)⟩,
   ⟨(some 7), none, .move (.t 19)⟩] (some [0, 6, 7]))
 (.seq (.seq (.ops [⟨(some 20), none, .move (.t 7)⟩] (some [0, 6, 20]))
 (.cond (.t 20)
  (.ops [⟨(some 21), none, .move (.t 6)⟩,
    ⟨(some 22), none, .bin .add 3 (.t 21) (.c (.int .i64 1))⟩,
    ⟨(some 6), none, .move (.t 22)⟩] (some [0, 6]))
  .skip))
 (.seq (.opsr [⟨(some 23), none, .move (.t 0)⟩,
   ⟨(some 24), none, .nilCheck (.t 23)⟩,
   ⟨(some 25), none, .fieldAddr 2 (.t 24)⟩,
   ⟨(some 26), none, .load false 1 (.t 25)⟩,
   ⟨(some 27), none, .move (.t 0)⟩,
   ⟨(some 28), none, .nilCheck (.t 27)⟩,
   ⟨(some 29), none, .fieldAddr 3 (.t 28)⟩,
   ⟨(some 30), none, .load false 1 (.t 29)⟩,
   ⟨(some 31), none, .len (.t 30)⟩,
   ⟨(some 32), none, .bin .sub 3 (.t 26) (.t 31)⟩,
   ⟨(some 33), none, .move (.t 6)⟩,
   ⟨(some 34), none, .bin .add 3 (.t 32) (.t 33)⟩,
   ⟨(some 8), none, .move (.t 34)⟩] (some [0, 8]))
 (.seq (.seq (.ops [⟨(some 35), none, .move (.t 8)⟩,
   ⟨(some 36), none, .move (.t 0)⟩,
   ⟨(some 37), none, .call (.c (.func (.func 11) #[] #[])) [(.t 36)]⟩,
   ⟨(some 38), none, .bin .lss 3 (.t 35) (.t 37)⟩] (some [8, 38]))
 (.cond (.t 38)
  (.seq (.ops [⟨(some 4), none, .move (.c (.int .i64 0))⟩,
    ⟨(some 5), none, .move (.c (.int .i64 14))⟩] (some [4, 5]))
  .ret)
  .skip))
 (.seq (.ops [⟨(some 39), none, .move (.t 8)⟩,
   ⟨(some 4), none, .move (.t 39)⟩,
   ⟨(some 5), none, .move (.c (.int .i64 0))⟩] (some [4, 5]))
 .ret))))))), [.tmp 4, .tmp 5]⟩

/-- (*cloisonne/ring.Ring).Floor -/
def x11 : XDecl := .code ⟨1, 
 (.seq (.ops [⟨(some 2), none, .move (.c (.int .i64 0))⟩] (some [0]))
 (.seq (.seq (.ops [⟨(some 3), none, .move (.t 0)⟩,
   ⟨(some 4), none, .isNil .ptr false (.t 3)⟩] (some [0, 4]))
 (.cond (.t 4)
  (.seq (.ops [⟨(some 2), none, .move (.c (.int .i64 0))⟩] (some [2]))
  .ret)
  .skip))
 (.seq (.opsr [⟨(some 5), none, .move (.t 0)⟩,
   ⟨(some 6), none, .nilCheck (.t 5)⟩,
   ⟨(some 7), none, .fieldAddr 2 (.t 6)⟩,
   ⟨(some 8), none, .load false 1 (.t 7)⟩,
   ⟨(some 9), none, .move (.t 0)⟩,
   ⟨(some 10), none, .nilCheck (.t 9)⟩,
   ⟨(some 11), none, .fieldAddr 0 (.t 10)⟩,
   ⟨(some 12), none, .load false 1 (.t 11)⟩,
   ⟨(some 13), none, .bin .sub 3 (.t 8) (.t 12)⟩,
   ⟨(some 14), none, .bin .add 3 (.t 13) (.c (.int .i64 1))⟩,
   ⟨(some 15), none, .move (.t 0)⟩,
   ⟨(some 16), none, .nilCheck (.t 15)⟩,
   ⟨(some 17), none, .fieldAddr 1 (.t 16)⟩,
   ⟨(some 18), none, .load false 1 (.t 17)⟩,
   ⟨(some 19), none, .calcB .max [3, 3] 3 [(.t 14), (.t 18)]⟩,
   ⟨(some 2), none, .move (.t 19)⟩] (some [2]))
 .ret))), [.tmp 2]⟩

/-- (*cloisonne/ring.Ring).Seq -/
def x12 : XDecl := .code ⟨1, 
 (.seq (.ops [⟨(some 2), none, .move (.c (.int .i64 0))⟩] (some [0]))
 (.seq (.seq (.ops [⟨(some 3), none, .move (.t 0)⟩,
   ⟨(some 4), none, .isNil .ptr false (.t 3)⟩] (some [0, 4]))
 (.cond (.t 4)
  (.seq (.ops [⟨(some 2), none, .move (.c (.int .i64 0))⟩] (some [2]))
  .ret)
  .skip))
 (.seq (.ops [⟨(some 5), none, .move (.t 0)⟩,
   ⟨(some 6), none, .nilCheck (.t 5)⟩,
   ⟨(some 7), none, .fieldAddr 2 (.t 6)⟩,
   ⟨(some 8), none, .load false 1 (.t 7)⟩,
   ⟨(some 2), none, .move (.t 8)⟩] (some [2]))
 .ret))), [.tmp 2]⟩

/-- (*cloisonne/ring.Ring).Clone -/
def x13 : XDecl := .code ⟨1, 
 (.seq (.ops [⟨(some 2), none, .move (.c (.pointer none))⟩] (some [0]))
 (.seq (.seq (.ops [⟨(some 4), none, .move (.t 0)⟩,
   ⟨(some 5), none, .isNil .ptr false (.t 4)⟩] (some [0, 5]))
 (.cond (.t 5)
  (.seq (.ops [⟨(some 2), none, .move (.c (.pointer none))⟩] (some [2]))
  .ret)
  .skip))
 (.seq (.ops [⟨(some 6), none, .move (.t 0)⟩,
   ⟨(some 7), none, .nilCheck (.t 6)⟩,
   ⟨(some 8), none, .load true 4 (.t 7)⟩,
   ⟨(some 3), none, .alloc [(.int .i64 0), (.int .i64 0), (.int .i64 0), (.slice none 0 0)]⟩,
   ⟨none, none, .store 4 (.t 3) (.t 8)⟩] (some [0, 3]))
 (.seq (.ops [⟨(some 9), none, .move (.t 0)⟩,
   ⟨(some 10), none, .nilCheck (.t 9)⟩,
   ⟨(some 11), none, .fieldAddr 3 (.t 10)⟩,
   ⟨(some 12), none, .load false 1 (.t 11)⟩,
   ⟨(some 13), none, .call (.c (.func (.func 21) #[] #[])) [(.t 12)]⟩,
   ⟨(some 14), none, .fieldAddr 3 (.t 3)⟩,
   ⟨none, none, .store 1 (.t 14) (.t 13)⟩] (some [3]))
 (.seq (.ops [⟨(some 2), none, .move (.t 3)⟩] (some [2]))
 .ret))))), [.tmp 2]⟩

/-- (*cloisonne/cloisonneref10.Ring).Seq -/
def x14 : XDecl := .code ⟨1, 
 (.seq (.ops [⟨(some 2), none, .move (.c (.int .i64 0))⟩] (some [0]))
 (.seq (.opsr [⟨(some 3), none, .move (.t 0)⟩,
   ⟨(some 4), none, .nilCheck (.t 3)⟩,
   ⟨(some 5), none, .fieldAddr 1 (.t 4)⟩,
   ⟨(some 6), none, .load false 1 (.t 5)⟩,
   ⟨(some 7), none, .move (.t 0)⟩,
   ⟨(some 8), none, .nilCheck (.t 7)⟩,
   ⟨(some 9), none, .fieldAddr 2 (.t 8)⟩,
   ⟨(some 10), none, .load false 1 (.t 9)⟩,
   ⟨(some 11), none, .len (.t 10)⟩,
   ⟨(some 12), none, .bin .add 3 (.t 6) (.t 11)⟩,
   ⟨(some 2), none, .move (.t 12)⟩] (some [2]))
 .ret)), [.tmp 2]⟩

/-- (*cloisonne/cloisonneref10.Ring).Push -/
def x15 : XDecl := .code ⟨2, 
 (.seq (.ops [⟨(some 4), none, .move (.c (.int .i64 0))⟩,
   ⟨(some 5), none, .move (.c (.int .i64 0))⟩] (some [0, 1]))
 (.seq (.ops [⟨(some 6), none, .move (.c (.int .u64 0))⟩] (some [0, 1, 6]))
 (.seq (.seq (.ops [⟨(some 7), none, .move (.t 0)⟩,
   ⟨(some 8), none, .nilCheck (.t 7)⟩,
   ⟨(some 9), none, .fieldAddr 2 (.t 8)⟩,
   ⟨(some 10), none, .load false 1 (.t 9)⟩,
   ⟨(some 11), none, .len (.t 10)⟩,
   ⟨(some 12), none, .bin .gtr 3 (.t 11) (.c (.int .i64 0))⟩] (some [0, 1, 6, 12]))
 (.cond (.t 12)
  (.opsr [⟨(some 13), none, .move (.t 0)⟩,
    ⟨(some 14), none, .nilCheck (.t 13)⟩,
    ⟨(some 15), none, .fieldAddr 2 (.t 14)⟩,
    ⟨(some 16), none, .load false 1 (.t 15)⟩,
    ⟨(some 17), none, .move (.t 0)⟩,
    ⟨(some 18), none, .nilCheck (.t 17)⟩,
    ⟨(some 19), none, .fieldAddr 2 (.t 18)⟩,
    ⟨(some 20), none, .load false 1 (.t 19)⟩,
    ⟨(some 21), none, .len (.t 20)⟩,
    ⟨(some 22), none, .bin .sub 3 (.t 21) (.c (.int .i64 1))⟩,
    ⟨(some 23), none, .indexAddr 1 (.t 16) (.t 22)⟩,
    ⟨(some 24), none, .load false 1 (.t 23)⟩,
    ⟨(some 6), none, .move (.t 24)⟩] (some [0, 1, 6]))
  .skip))
 (.seq (.seq (.ops [⟨(some 25), none, .move (.t 1)⟩,
   ⟨(some 26), none, .move (.t 6)⟩,
   ⟨(some 27), none, .bin .leq 28 (.t 25) (.t 26)⟩] (some [0, 1, 27]))
 (.cond (.t 27)
  (.seq (.ops [⟨(some 4), none, .move (.c (.int .i64 0))⟩,
    ⟨(some 5), none, .move (.c (.int .i64 1))⟩] (some [4, 5]))
  .ret)
  .skip))
 (.seq (.seq (.ops [⟨(some 28), none, .move (.t 0)⟩,
   ⟨(some 29), none, .call (.c (.func (.func 14) #[] #[])) [(.t 28)]⟩,
   ⟨(some 30), none, .bin .geq 3 (.t 29) (.c (.int .i64 1073741824))⟩] (some [0, 1, 30]))
 (.cond (.t 30)
  (.seq (.ops [⟨(some 4), none, .move (.c (.int .i64 0))⟩,
    ⟨(some 5), none, .move (.c (.int .i64 17))⟩] (some [4, 5]))
  .ret)
  .skip))
 (.seq (.ops [⟨(some 31), none, .move (.t 0)⟩,
   ⟨(some 32), none, .move (.t 0)⟩,
   ⟨(some 33), none, .nilCheck (.t 32)⟩,
   ⟨(some 34), none, .fieldAddr 2 (.t 33)⟩,
   ⟨(some 35), none, .load false 1 (.t 34)⟩,
   ⟨(some 36), none, .move (.t 1)⟩,
   ⟨(some 37), none, .buildSlice [(.int .u64 0)] 1 1 [(0, (.t 36))]⟩,
   ⟨(some 38), none, .append 1 8 [(.int .u64 0)] (.t 35) (.t 37)⟩,
   ⟨(some 39), none, .nilCheck (.t 31)⟩,
   ⟨(some 40), none, .fieldAddr 2 (.t 39)⟩,
   ⟨none, none, .store 1 (.t 40) (.t 38)⟩] (some [0]))
 (.seq (.ops [⟨(some 41), none, .move (.t 0)⟩,
   ⟨(some 42), none, .call (.c (.func (.func 14) #[] #[])) [(.t 41)]⟩,
   ⟨(some 4), none, .move (.t 42)⟩,
   ⟨(some 5), none, .move (.c (.int .i64 0))⟩] (some [4, 5]))
 .ret))))))), [.tmp 4, .tmp 5]⟩

/-- (*cloisonne/ring.Ring).Size -/
def x16 : XDecl := .code ⟨1, 
 (.seq (.ops [⟨(some 2), none, .move (.c (.int .i64 0))⟩] (some [0]))
 (.seq (.seq (.ops [⟨(some 3), none, .move (.t 0)⟩,
   ⟨(some 4), none, .isNil .ptr false (.t 3)⟩] (some [0, 4]))
 (.cond (.t 4)
  (.seq (.ops [⟨(some 2), none, .move (.c (.int .i64 0))⟩] (some [2]))
  .ret)
  .skip))
 (.seq (.ops [⟨(some 5), none, .move (.t 0)⟩,
   ⟨(some 6), none, .nilCheck (.t 5)⟩,
   ⟨(some 7), none, .fieldAddr 0 (.t 6)⟩,
   ⟨(some 8), none, .load false 1 (.t 7)⟩,
   ⟨(some 2), none, .move (.t 8)⟩] (some [2]))
 .ret))), [.tmp 2]⟩

/-- (*cloisonne/cloisonneref10.Ring).AsOf -/
def x17 : XDecl := .code ⟨2, 
 (.seq (.ops [⟨(some 4), none, .move (.c (.int .i64 0))⟩,
   ⟨(some 5), none, .move (.c (.int .i64 0))⟩] (some [0, 1]))
 (.seq (.ops [⟨(some 6), none, .move (.c (.int .i64 0))⟩] (some [0, 1, 6]))
 (.seq (.seq (.ops [⟨(some 7), none, .move (.c (.int .i64 0))⟩] (some [0, 1, 6, 7]))
 (.block 0
  (.loop
   (.seq (.seq (.ops [⟨(some 8), none, .move (.t 7)⟩,
     ⟨(some 9), none, .move (.t 0)⟩,
     ⟨(some 10), none, .nilCheck (.t 9)⟩,
     ⟨(some 11), none, .fieldAddr 2 (.t 10)⟩,
     ⟨(some 12), none, .load false 1 (.t 11)⟩,
     ⟨(some 13), none, .len (.t 12)⟩,
     ⟨(some 14), none, .bin .lss 3 (.t 8) (.t 13)⟩] (some [0, 1, 6, 7, 14]))
   (.cond (.t 14)
    .skip
    (.exit 0)))
   (.seq (.block 1
    (.seq (.ops [⟨(some 17), none, .move (.t 0)⟩,
      ⟨(some 18), none, .nilCheck (.t 17)⟩,
      ⟨(some 19), none, .fieldAddr 2 (.t 18)⟩,
      ⟨(some 20), none, .load false 1 (.t 19)⟩,
      ⟨(some 21), none, .move (.t 7)⟩,
      ⟨(some 22), none, .indexAddr 1 (.t 20) (.t 21)⟩,
      ⟨(some 23), none, .load false 1 (.t 22)⟩,
      ⟨(some 24), none, .move (.t 1)⟩,
      ⟨(some 25), none, .bin .leq 28 (.t 23) (.t 24)⟩] (some [0, 1, 6, 7, 25]))
    (.cond (.t 25)
     (.ops [⟨(some 26), none, .move (.t 6)⟩,
       ⟨(some 27), none, .bin .add 3 (.t 26) (.c (.int .i64 1))⟩,
       ⟨(some 6), none, .move (.t 27)⟩] (some [0, 1, 6, 7]))
     .skip)))
   (.ops [⟨(some 15), none, .move (.t 7)⟩,
     ⟨(some 16), none, .bin .add 3 (.t 15) (.c (.int .i64 1))⟩,
     ⟨(some 7), none, .move (.t 16)⟩] (some [0, 1, 6, 7])))))))
 (.seq (.seq (.opsr [⟨(some 28), none, .move (.t 0)⟩,
   ⟨(some 29), none, .nilCheck (.t 28)⟩,
   ⟨(some 30), none, .fieldAddr 2 (.t 29)⟩,
   ⟨(some 31), none, .load false 1 (.t 30)⟩,
   ⟨(some 32), none, .len (.t 31)⟩,
   ⟨(some 33), none, .move (.t 6)⟩,
   ⟨(some 34), none, .bin .sub 3 (.t 32) (.t 33)⟩,
   ⟨(some 35), none, .move (.t 0)⟩,
   ⟨(some 36), none, .nilCheck (.t 35)⟩,
   ⟨(some 37), none, .fieldAddr 0 (.t 36)⟩,
   ⟨(some 38), none, .load false 1 (.t 37)⟩,
   ⟨(some 39), none, .bin .geq 3 (.t 34) (.t 38)⟩] (some [0, 6, 39]))
 (.cond (.t 39)
  (.seq (.ops [⟨(some 4), none, .move (.c (.int .i64 0))⟩,
    ⟨(some 5), none, .move (.c (.int .i64 14))⟩] (some [4, 5]))
  .ret)
  .skip))
 (.seq (.ops [⟨(some 40), none, .move (.t 0)⟩,
   ⟨(some 41), none, .nilCheck (.t 40)⟩,
   ⟨(some 42), none, .fieldAddr 1 (.t 41)⟩,
   ⟨(some 43), none, .load false 1 (.t 42)⟩,
   ⟨(some 44), none, .move (.t 6)⟩,
   ⟨(some 45), none, .bin .add 3 (.t 43) (.t 44)⟩,
   ⟨(some 4), none, .move (.t 45)⟩,
   ⟨(some 5), none, .move (.c (.int .i64 0))⟩] (some [4, 5]))
 .ret))))), [.tmp 4, .tmp 5]⟩

/-- (*cloisonne/ring.Ring).last -/
def x18 : XDecl := .code ⟨1, 
 (.seq (.ops [⟨(some 2), none, .move (.c (.int .u64 0))⟩] (some [0]))
 (.seq (.seq (.ops [⟨(some 3), none, .move (.t 0)⟩,
   ⟨(some 4), none, .nilCheck (.t 3)⟩,
   ⟨(some 5), none, .fieldAddr 3 (.t 4)⟩,
   ⟨(some 6), none, .load false 1 (.t 5)⟩,
   ⟨(some 7), none, .len (.t 6)⟩,
   ⟨(some 8), none, .bin .eql 3 (.t 7) (.c (.int .i64 0))⟩] (some [0, 8]))
 (.cond (.t 8)
  (.seq (.ops [⟨(some 2), none, .move (.c (.int .u64 0))⟩] (some [2]))
  .ret)
  .skip))
 (.seq (.opsr [⟨(some 9), none, .move (.t 0)⟩,
   ⟨(some 10), none, .nilCheck (.t 9)⟩,
   ⟨(some 11), none, .fieldAddr 3 (.t 10)⟩,
   ⟨(some 12), none, .load false 1 (.t 11)⟩,
   ⟨(some 13), none, .move (.t 0)⟩,
   ⟨(some 14), none, .nilCheck (.t 13)⟩,
   ⟨(some 15), none, .fieldAddr 3 (.t 14)⟩,
   ⟨(some 16), none, .load false 1 (.t 15)⟩,
   ⟨(some 17), none, .len (.t 16)⟩,
   ⟨(some 18), none, .bin .sub 3 (.t 17) (.c (.int .i64 1))⟩,
   ⟨(some 19), none, .indexAddr 1 (.t 12) (.t 18)⟩,
   ⟨(some 20), none, .load false 1 (.t 19)⟩,
   ⟨(some 2), none, .move (.t 20)⟩] (some [2]))
 .ret))), [.tmp 2]⟩

/-- slices.Delete[[]uint64,uint64] -/
def x19 : XDecl := .code ⟨3, 
 (.seq (.ops [⟨(some 6), none, .move (.c (.slice none 0 0))⟩] (some [0, 1, 2]))
 (.seq (.ops [⟨(some 8), none, .move (.t 0)⟩,
   ⟨(some 9), none, .move (.t 1)⟩,
   ⟨(some 10), none, .move (.t 2)⟩,
   ⟨(some 11), none, .move (.t 0)⟩,
   ⟨(some 12), none, .len (.t 11)⟩,
   ⟨(some 13), none, .slice 1 (.t 8) (some (.t 9)) (some (.t 10)) (some (.t 12))⟩] (some [0, 1, 2]))
 (.seq (.seq (.ops [⟨(some 14), none, .move (.t 1)⟩,
   ⟨(some 15), none, .move (.t 2)⟩,
   ⟨(some 16), none, .bin .eql 3 (.t 14) (.t 15)⟩] (some [0, 1, 2, 16]))
 (.cond (.t 16)
  (.seq (.ops [⟨(some 17), none, .move (.t 0)⟩,
    ⟨(some 6), none, .move (.t 17)⟩] (some [6]))
  .ret)
  .skip))
 (.seq (.ops [⟨(some 18), none, .move (.t 0)⟩,
   ⟨(some 19), none, .len (.t 18)⟩,
   ⟨(some 7), none, .move (.t 19)⟩] (some [0, 1, 2, 7]))
 (.seq (.opsd [(0, 0, ⟨(some 20), none, .move (.t 0)⟩),
   (1, 0, ⟨(some 21), none, .move (.t 1)⟩),
   (2, 3, ⟨(some 22), none, .slice 1 (.t 20) none (some (.t 21)) none⟩),
   (3, 0, ⟨(some 23), none, .move (.t 0)⟩),
   (4, 0, ⟨(some 24), none, .move (.t 2)⟩),
   (5, 24, ⟨(some 25), none, .slice 1 (.t 23) (some (.t 24)) none none⟩),
   (6, 63, ⟨(some 26), none, .append 1 8 [(.int .u64 0)] (.t 22) (.t 25)⟩),
   (7, 127, ⟨(some 0), none, .move (.t 26)⟩)] (some [0, 7]))
 (.seq (.ops [⟨(some 27), none, .move (.t 0)⟩,
   ⟨(some 28), none, .move (.t 0)⟩,
   ⟨(some 29), none, .len (.t 28)⟩,
   ⟨(some 30), none, .move (.t 7)⟩,
   ⟨(some 31), none, .slice 1 (.t 27) (some (.t 29)) (some (.t 30)) none⟩,
   ⟨none, none, .clear [(.int .u64 0)] (.t 31)⟩] (some [0]))
 (.seq (.ops [⟨(some 32), none, .move (.t 0)⟩,
   ⟨(some 6), none, .move (.t 32)⟩] (some [6]))
 .ret))))))), [.tmp 6]⟩

/-- slices.BinarySearch[[]uint64,uint64] -/
def x20 : XDecl := .code ⟨2, 
 (.seq (.ops [⟨(some 4), none, .move (.c (.int .i64 0))⟩,
   ⟨(some 5), none, .move (.c (.bool false))⟩] (some [0, 1]))
 (.seq (.ops [⟨(some 10), none, .move (.t 0)⟩,
   ⟨(some 11), none, .len (.t 10)⟩,
   ⟨(some 6), none, .move (.t 11)⟩] (some [0, 1, 6]))
 (.seq (.ops [⟨(some 12), none, .move (.t 6)⟩,
   ⟨(some 7), none, .move (.c (.int .i64 0))⟩,
   ⟨(some 8), none, .move (.t 12)⟩] (some [0, 1, 6, 7, 8]))
 (.seq (.block 0
  (.loop
   (.seq (.seq (.ops [⟨(some 13), none, .move (.t 7)⟩,
     ⟨(some 14), none, .move (.t 8)⟩,
     ⟨(some 15), none, .bin .lss 3 (.t 13) (.t 14)⟩] (some [0, 1, 6, 7, 8, 15]))
   (.cond (.t 15)
    .skip
    (.exit 0)))
   (.block 1
    (.seq (.ops [⟨(some 16), none, .move (.t 7)⟩,
      ⟨(some 17), none, .move (.t 8)⟩,
      ⟨(some 18), none, .bin .add 3 (.t 16) (.t 17)⟩,
      ⟨(some 19), none, .conv 3 48 (.t 18)⟩,
      ⟨(some 20), none, .bin .shr 48 (.t 19) (.c (.int .u64 1))⟩,
      ⟨(some 21), none, .conv 48 3 (.t 20)⟩,
      ⟨(some 9), none, .move (.t 21)⟩] (some [0, 1, 6, 7, 8, 9]))
    (.seq (.ops [⟨(some 22), none, .move (.t 0)⟩,
      ⟨(some 23), none, .move (.t 9)⟩,
      ⟨(some 24), none, .indexAddr 1 (.t 22) (.t 23)⟩,
      ⟨(some 25), none, .load false 1 (.t 24)⟩,
      ⟨(some 26), none, .move (.t 1)⟩,
      ⟨(some 27), none, .call (.c (.func (.func 22) #[] #[])) [(.t 25), (.t 26)]⟩] (some [0, 1, 6, 7, 8, 9, 27]))
    (.cond (.t 27)
     (.ops [⟨(some 28), none, .move (.t 9)⟩,
       ⟨(some 29), none, .bin .add 3 (.t 28) (.c (.int .i64 1))⟩,
       ⟨(some 7), none, .move (.t 29)⟩] (some [0, 1, 6, 7, 8]))
     (.ops [⟨(some 30), none, .move (.t 9)⟩,
       ⟨(some 8), none, .move (.t 30)⟩] (some [0, 1, 6, 7, 8])))))))))
 (.seq (.ops [⟨(some 31), none, .move (.t 7)⟩,
   ⟨(some 32), none, .move (.t 7)⟩,
   ⟨(some 33), none, .move (.t 6)⟩,
   ⟨(some 34), none, .bin .lss 3 (.t 32) (.t 33)⟩,
   ⟨(some 35), none, .move (.t 34)⟩,
   ⟨(some 36), (some (35, true)), .move (.t 0)⟩,
   ⟨(some 37), (some (35, true)), .move (.t 7)⟩,
   ⟨(some 38), (some (35, true)), .indexAddr 1 (.t 36) (.t 37)⟩,
   ⟨(some 39), (some (35, true)), .load false 1 (.t 38)⟩,
   ⟨(some 40), (some (35, true)), .move (.t 1)⟩,
   ⟨(some 41), (some (35, true)), .bin .eql 28 (.t 39) (.t 40)⟩,
   ⟨(some 42), (some (35, true)), .move (.t 41)⟩,
   ⟨(some 43), (some (42, false)), .move (.t 0)⟩,
   ⟨(some 44), (some (42, false)), .move (.t 7)⟩,
   ⟨(some 45), (some (42, false)), .indexAddr 1 (.t 43) (.t 44)⟩,
   ⟨(some 46), (some (42, false)), .load false 1 (.t 45)⟩,
   ⟨(some 47), (some (42, false)), .call (.c (.func (.func 23) #[] #[])) [(.t 46)]⟩,
   ⟨(some 48), (some (42, false)), .move (.t 47)⟩,
   ⟨(some 49), (some (48, true)), .move (.t 1)⟩,
   ⟨(some 50), (some (48, true)), .call (.c (.func (.func 23) #[] #[])) [(.t 49)]⟩,
   ⟨(some 51), (some (42, false)), .pick (.t 48) (.t 50) (.c (.bool false))⟩,
   ⟨(some 52), (some (35, true)), .pick (.t 42) (.c (.bool true)) (.t 51)⟩,
   ⟨(some 53), none, .pick (.t 35) (.t 52) (.c (.bool false))⟩,
   ⟨(some 4), none, .move (.t 31)⟩,
   ⟨(some 5), none, .move (.t 53)⟩] (some [4, 5]))
 .ret))))), [.tmp 4, .tmp 5]⟩

/-- slices.Clone[[]uint64,uint64] -/
def x21 : XDecl := .code ⟨1, 
 (.seq (.ops [⟨(some 2), none, .move (.c (.slice none 0 0))⟩] (some [0]))
 (.seq (.seq (.ops [⟨(some 3), none, .move (.t 0)⟩,
   ⟨(some 4), none, .isNil .slice false (.t 3)⟩] (some [0, 4]))
 (.cond (.t 4)
  (.seq (.ops [⟨(some 2), none, .move (.c (.slice none 0 0))⟩] (some [2]))
  .ret)
  .skip))
 (.seq (.ops [⟨(some 5), none, .buildSlice [(.int .u64 0)] 1 0 []⟩,
   ⟨(some 6), none, .move (.t 0)⟩,
   ⟨(some 7), none, .append 1 8 [(.int .u64 0)] (.t 5) (.t 6)⟩,
   ⟨(some 2), none, .move (.t 7)⟩] (some [2]))
 .ret))), [.tmp 2]⟩

/-- cmp.Less[uint64] -/
def x22 : XDecl := .code ⟨2, 
 (.seq (.ops [⟨(some 4), none, .move (.c (.bool false))⟩] (some [0, 1]))
 (.seq (.ops [⟨(some 5), none, .move (.t 0)⟩,
   ⟨(some 6), none, .call (.c (.func (.func 24) #[] #[])) [(.t 5)]⟩,
   ⟨(some 7), none, .move (.t 6)⟩,
   ⟨(some 8), (some (7, true)), .move (.t 1)⟩,
   ⟨(some 9), (some (7, true)), .call (.c (.func (.func 24) #[] #[])) [(.t 8)]⟩,
   ⟨(some 10), (some (7, true)), .un .not (.t 9)⟩,
   ⟨(some 11), none, .pick (.t 7) (.t 10) (.c (.bool false))⟩,
   ⟨(some 12), none, .move (.t 11)⟩,
   ⟨(some 13), (some (12, false)), .move (.t 0)⟩,
   ⟨(some 14), (some (12, false)), .move (.t 1)⟩,
   ⟨(some 15), (some (12, false)), .bin .lss 28 (.t 13) (.t 14)⟩,
   ⟨(some 16), none, .pick (.t 12) (.c (.bool true)) (.t 15)⟩,
   ⟨(some 4), none, .move (.t 16)⟩] (some [4]))
 .ret)), [.tmp 4]⟩

/-- slices.isNaN[uint64] -/
def x23 : XDecl := .code ⟨1, 
 (.seq (.ops [⟨(some 2), none, .move (.c (.bool false))⟩] (some [0]))
 (.seq (.ops [⟨(some 3), none, .move (.t 0)⟩,
   ⟨(some 4), none, .move (.t 0)⟩,
   ⟨(some 5), none, .bin .neq 28 (.t 3) (.t 4)⟩,
   ⟨(some 2), none, .move (.t 5)⟩] (some [2]))
 .ret)), [.tmp 2]⟩

/-- cmp.isNaN[uint64] -/
def x24 : XDecl := .code ⟨1, 
 (.seq (.ops [⟨(some 2), none, .move (.c (.bool false))⟩] (some [0]))
 (.seq (.ops [⟨(some 3), none, .move (.t 0)⟩,
   ⟨(some 4), none, .move (.t 0)⟩,
   ⟨(some 5), none, .bin .neq 28 (.t 3) (.t 4)⟩,
   ⟨(some 2), none, .move (.t 5)⟩] (some [2]))
 .ret)), [.tmp 2]⟩

-- 25 (runtime.boundsError).Error: no body
def x25 : XDecl := .ext 25

-- 26 (runtime.boundsError).RuntimeError: no body
def x26 : XDecl := .ext 26

-- 27 (runtime.errorString).Error: no body
def x27 : XDecl := .ext 27

-- 28 (runtime.errorString).RuntimeError: no body
def x28 : XDecl := .ext 28

-- 29 (runtime.plainError).Error: no body
def x29 : XDecl := .ext 29

-- 30 (runtime.plainError).RuntimeError: no body
def x30 : XDecl := .ext 30

-- 31 (runtime.errorAddressString).Error: no body
def x31 : XDecl := .ext 31

-- 32 (runtime.errorAddressString).RuntimeError: no body
def x32 : XDecl := .ext 32

-- 33 (*runtime.TypeAssertionError).Error: no body
def x33 : XDecl := .ext 33

-- 34 (*runtime.TypeAssertionError).RuntimeError: no body
def x34 : XDecl := .ext 34

-- 35 (*runtime.PanicNilError).Error: no body
def x35 : XDecl := .ext 35

-- 36 (*runtime.PanicNilError).RuntimeError: no body
def x36 : XDecl := .ext 36

-- 37 (*internal/abi.Type).Align: no body
def x37 : XDecl := .ext 37

-- 38 (internal/runtime/maps.unhashableTypeError).Error: no body
def x38 : XDecl := .ext 38

-- 39 (internal/runtime/maps.unhashableTypeError).RuntimeError: no body
def x39 : XDecl := .ext 39

-- 40 (internal/abi.Kind).String: no body
def x40 : XDecl := .ext 40

def tab : FuncId → Option XDecl
  | 0 => some x0
  | 1 => some x1
  | 2 => some x2
  | 3 => some x3
  | 4 => some x4
  | 5 => some x5
  | 6 => some x6
  | 7 => some x7
  | 8 => some x8
  | 9 => some x9
  | 10 => some x10
  | 11 => some x11
  | 12 => some x12
  | 13 => some x13
  | 14 => some x14
  | 15 => some x15
  | 16 => some x16
  | 17 => some x17
  | 18 => some x18
  | 19 => some x19
  | 20 => some x20
  | 21 => some x21
  | 22 => some x22
  | 23 => some x23
  | 24 => some x24
  | 25 => some x25
  | 26 => some x26
  | 27 => some x27
  | 28 => some x28
  | 29 => some x29
  | 30 => some x30
  | 31 => some x31
  | 32 => some x32
  | 33 => some x33
  | 34 => some x34
  | 35 => some x35
  | 36 => some x36
  | 37 => some x37
  | 38 => some x38
  | 39 => some x39
  | 40 => some x40
  | _ => none

theorem is0 : FnIs Try.prog 0 x0 := rfl
theorem is1 : FnIs Try.prog 1 x1 := rfl
theorem is2 : FnIs Try.prog 2 x2 := ⟨Try.f2, _, Try.func2, by kernel_rfl, rfl, by kernel_rfl, by decide, by kernel_rfl⟩
theorem is3 : FnIs Try.prog 3 x3 := ⟨Try.f3, _, Try.func3, by kernel_rfl, rfl, by kernel_rfl, by decide, by kernel_rfl⟩
theorem is4 : FnIs Try.prog 4 x4 := ⟨Try.f4, _, Try.func4, by kernel_rfl, rfl, by kernel_rfl, by decide, by kernel_rfl⟩
theorem is5 : FnIs Try.prog 5 x5 := ⟨Try.f5, _, Try.func5, by kernel_rfl, rfl, by kernel_rfl, by decide, by kernel_rfl⟩
theorem is6 : FnIs Try.prog 6 x6 := ⟨Try.f6, _, Try.func6, by kernel_rfl, rfl, by kernel_rfl, by decide, by kernel_rfl⟩
theorem is7 : FnIs Try.prog 7 x7 := ⟨Try.f7, _, Try.func7, by kernel_rfl, rfl, by kernel_rfl, by decide, by kernel_rfl⟩
theorem is8 : FnIs Try.prog 8 x8 := ⟨Try.f8, _, Try.func8, by kernel_rfl, rfl, by kernel_rfl, by decide, by kernel_rfl⟩
theorem is9 : FnIs Try.prog 9 x9 := ⟨Try.f9, _, Try.func9, by kernel_rfl, rfl, by kernel_rfl, by decide, by kernel_rfl⟩
theorem is10 : FnIs Try.prog 10 x10 := ⟨Try.f10, _, Try.func10, by kernel_rfl, rfl, by kernel_rfl, by decide, by kernel_rfl⟩
theorem is11 : FnIs Try.prog 11 x11 := ⟨Try.f11, _, Try.func11, by kernel_rfl, rfl, by kernel_rfl, by decide, by kernel_rfl⟩
theorem is12 : FnIs Try.prog 12 x12 := ⟨Try.f12, _, Try.func12, by kernel_rfl, rfl, by kernel_rfl, by decide, by kernel_rfl⟩
theorem is13 : FnIs Try.prog 13 x13 := ⟨Try.f13, _, Try.func13, by kernel_rfl, rfl, by kernel_rfl, by decide, by kernel_rfl⟩
theorem is14 : FnIs Try.prog 14 x14 := ⟨Try.f14, _, Try.func14, by kernel_rfl, rfl, by kernel_rfl, by decide, by kernel_rfl⟩
theorem is15 : FnIs Try.prog 15 x15 := ⟨Try.f15, _, Try.func15, by kernel_rfl, rfl, by kernel_rfl, by decide, by kernel_rfl⟩
theorem is16 : FnIs Try.prog 16 x16 := ⟨Try.f16, _, Try.func16, by kernel_rfl, rfl, by kernel_rfl, by decide, by kernel_rfl⟩
theorem is17 : FnIs Try.prog 17 x17 := ⟨Try.f17, _, Try.func17, by kernel_rfl, rfl, by kernel_rfl, by decide, by kernel_rfl⟩
theorem is18 : FnIs Try.prog 18 x18 := ⟨Try.f18, _, Try.func18, by kernel_rfl, rfl, by kernel_rfl, by decide, by kernel_rfl⟩
theorem is19 : FnIs Try.prog 19 x19 := ⟨Try.f19, _, Try.func19, by kernel_rfl, rfl, by kernel_rfl, by decide, by kernel_rfl⟩
theorem is20 : FnIs Try.prog 20 x20 := ⟨Try.f20, _, Try.func20, by kernel_rfl, rfl, by kernel_rfl, by decide, by kernel_rfl⟩
theorem is21 : FnIs Try.prog 21 x21 := ⟨Try.f21, _, Try.func21, by kernel_rfl, rfl, by kernel_rfl, by decide, by kernel_rfl⟩
theorem is22 : FnIs Try.prog 22 x22 := ⟨Try.f22, _, Try.func22, by kernel_rfl, rfl, by kernel_rfl, by decide, by kernel_rfl⟩
theorem is23 : FnIs Try.prog 23 x23 := ⟨Try.f23, _, Try.func23, by kernel_rfl, rfl, by kernel_rfl, by decide, by kernel_rfl⟩
theorem is24 : FnIs Try.prog 24 x24 := ⟨Try.f24, _, Try.func24, by kernel_rfl, rfl, by kernel_rfl, by decide, by kernel_rfl⟩
theorem is25 : FnIs Try.prog 25 x25 := rfl
theorem is26 : FnIs Try.prog 26 x26 := rfl
theorem is27 : FnIs Try.prog 27 x27 := rfl
theorem is28 : FnIs Try.prog 28 x28 := rfl
theorem is29 : FnIs Try.prog 29 x29 := rfl
theorem is30 : FnIs Try.prog 30 x30 := rfl
theorem is31 : FnIs Try.prog 31 x31 := rfl
theorem is32 : FnIs Try.prog 32 x32 := rfl
theorem is33 : FnIs Try.prog 33 x33 := rfl
theorem is34 : FnIs Try.prog 34 x34 := rfl
theorem is35 : FnIs Try.prog 35 x35 := rfl
theorem is36 : FnIs Try.prog 36 x36 := rfl
theorem is37 : FnIs Try.prog 37 x37 := rfl
theorem is38 : FnIs Try.prog 38 x38 := rfl
theorem is39 : FnIs Try.prog 39 x39 := rfl
theorem is40 : FnIs Try.prog 40 x40 := rfl

theorem tab_is : ∀ f d, tab f = some d → FnIs Try.prog f d := by
  intro f d h
  unfold tab at h
  split at h
  · cases h; exact is0
  · cases h; exact is1
  · cases h; exact is2
  · cases h; exact is3
  · cases h; exact is4
  · cases h; exact is5
  · cases h; exact is6
  · cases h; exact is7
  · cases h; exact is8
  · cases h; exact is9
  · cases h; exact is10
  · cases h; exact is11
  · cases h; exact is12
  · cases h; exact is13
  · cases h; exact is14
  · cases h; exact is15
  · cases h; exact is16
  · cases h; exact is17
  · cases h; exact is18
  · cases h; exact is19
  · cases h; exact is20
  · cases h; exact is21
  · cases h; exact is22
  · cases h; exact is23
  · cases h; exact is24
  · cases h; exact is25
  · cases h; exact is26
  · cases h; exact is27
  · cases h; exact is28
  · cases h; exact is29
  · cases h; exact is30
  · cases h; exact is31
  · cases h; exact is32
  · cases h; exact is33
  · cases h; exact is34
  · cases h; exact is35
  · cases h; exact is36
  · cases h; exact is37
  · cases h; exact is38
  · cases h; exact is39
  · cases h; exact is40
  · cases h

theorem mixed : Try.prog.follows .mixedOrders = true := by kernel_rfl
theorem laid : laidOutB Try.prog = true := by kernel_rfl
theorem own : ownKnob Try.prog.godebug = none := by kernel_rfl

end Go.Proofs.Ytbcoijgoipnelaa.X
