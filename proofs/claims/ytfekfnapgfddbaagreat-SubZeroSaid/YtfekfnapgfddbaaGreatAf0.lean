/- Functions of the program as code of the plain machine. Printed by program. -/
import Derived.Test.YtfekfnapgfddbaaGreatAk1
set_option maxRecDepth 100000
set_option linter.unusedVariables false
namespace Go.Am
open Go
-- 14 topiary/topiarylaw18.SubZero
def n_law18_SubZero : Nat := 14
def af_law18_SubZero : AF := ⟨48, [.tmp 2],
(.seq
(.reg [⟨(some 2), none, .mov (.c (.bool false))⟩] [] false)
(.seq
(.reg [⟨(some 3), none, .alc (.agg [(.int .i64 0), (.int .i64 0), (.sl true []), (.int .i64 0), (.sl true []), (.int .i64 0), (.int .i64 0), (.int .i64 0), (.int .i64 0), (.sl true []), (.sl true []), (.int .i64 0), (.int .i64 0), (.int .i64 0), (.sl true []), (.int .i64 0), (.int .i64 0), (.int .i64 0), (.sl true [])])⟩] [] false)
(.seq
(.seq
(.reg [⟨(some 6), none, .mov (.t 0)⟩,
 ⟨(some 7), none, .len (.t 6)⟩,
 ⟨(some 8), none, .bin .gtr (.t 7) (.c (.int .i64 6))⟩] [] false)
(.cond (.t 8)
 (.reg [⟨(some 9), none, .mov (.t 0)⟩,
  ⟨(some 10), none, .slc 1 (.t 9) none (some (.c (.int .i64 6))) none⟩,
  ⟨(some 0), none, .mov (.t 10)⟩] [] false)
 .skip))
(.seq
(.reg [⟨(some 12), none, .load true 19 (.t 3)⟩,
 ⟨(some 13), none, .mov (.t 0)⟩,
 ⟨(some 14), none, .call (.c (.fn 32 [] [])) [(.t 12), (.t 13)]⟩,
 ⟨(some 11), none, .mov (.t 14)⟩,
 ⟨(some 15), none, .ext (.t 11) 0⟩,
 ⟨(some 16), none, .ext (.t 11) 1⟩,
 ⟨(some 4), none, .mov (.t 15)⟩,
 ⟨(some 5), none, .mov (.t 16)⟩] [] false)
(.seq
(.reg [⟨(some 17), none, .call (.c (.fn 29 [] [])) []⟩,
 ⟨(some 18), none, .mov (.t 17)⟩,
 ⟨(some 19), (some (18, true)), .mov (.t 4)⟩,
 ⟨(some 20), (some (18, true)), .mov (.t 5)⟩,
 ⟨(some 21), (some (18, true)), .bin .add (.t 19) (.t 20)⟩,
 ⟨(some 22), (some (18, true)), .load true 19 (.t 3)⟩,
 ⟨(some 23), (some (18, true)), .mov (.t 0)⟩,
 ⟨(some 24), (some (18, true)), .call (.c (.fn 40 [] [])) [(.t 22), (.t 23)]⟩,
 ⟨(some 25), (some (18, true)), .bin .add (.t 21) (.t 24)⟩,
 ⟨(some 26), (some (18, true)), .load true 19 (.t 3)⟩,
 ⟨(some 27), (some (18, true)), .mov (.t 0)⟩,
 ⟨(some 28), (some (18, true)), .call (.c (.fn 34 [] [])) [(.t 26), (.t 27)]⟩,
 ⟨(some 29), (some (18, true)), .len (.t 28)⟩,
 ⟨(some 30), (some (18, true)), .bin .add (.t 25) (.t 29)⟩,
 ⟨(some 31), (some (18, true)), .load true 19 (.t 3)⟩,
 ⟨(some 32), (some (18, true)), .mov (.t 0)⟩,
 ⟨(some 33), (some (18, true)), .call (.c (.fn 77 [] [])) [(.t 31), (.t 32), (.c (.int .i64 0))]⟩,
 ⟨(some 34), (some (18, true)), .len (.t 33)⟩,
 ⟨(some 35), (some (18, true)), .bin .add (.t 30) (.t 34)⟩,
 ⟨(some 36), (some (18, true)), .bin .eql (.t 35) (.c (.int .i64 0))⟩,
 ⟨(some 37), none, .pick (.t 18) (.t 36) (.c (.bool false))⟩,
 ⟨(some 38), none, .mov (.t 37)⟩,
 ⟨(some 39), (some (38, true)), .load true 19 (.t 3)⟩,
 ⟨(some 40), (some (38, true)), .mov (.t 0)⟩,
 ⟨(some 41), (some (38, true)), .call (.c (.fn 39 [] [])) [(.t 39), (.t 40)]⟩,
 ⟨(some 42), (some (38, true)), .len (.t 41)⟩,
 ⟨(some 43), (some (38, true)), .mov (.t 0)⟩,
 ⟨(some 44), (some (38, true)), .len (.t 43)⟩,
 ⟨(some 45), (some (38, true)), .bin .add (.t 44) (.c (.int .i64 1))⟩,
 ⟨(some 46), (some (38, true)), .bin .eql (.t 42) (.t 45)⟩,
 ⟨(some 47), none, .pick (.t 38) (.t 46) (.c (.bool false))⟩,
 ⟨(some 2), none, .mov (.t 47)⟩] [] true)
.ret)))))⟩
-- 22 topiary/topiaryref13.Parse
def n_ref13_Parse : Nat := 22
def af_ref13_Parse : AF := ⟨66, [.cell 2 true 2, .tmp 3],
(.seq
(.reg [⟨(some 2), none, .alc (.agg [(.sl true []), (.sl true [])])⟩,
 ⟨(some 3), none, .mov (.c (.int .i64 0))⟩] [] false)
(.seq
(.reg [⟨(some 16), none, .mov (.t 0)⟩,
 ⟨(some 17), none, .call (.c (.fn 87 [] [])) [(.t 16)]⟩,
 ⟨(some 15), none, .mov (.t 17)⟩,
 ⟨(some 18), none, .ext (.t 15) 0⟩,
 ⟨(some 19), none, .ext (.t 15) 1⟩,
 ⟨(some 4), none, .mov (.t 18)⟩,
 ⟨(some 5), none, .mov (.t 19)⟩] [] false)
(.seq
(.seq
(.reg [⟨(some 20), none, .mov (.t 5)⟩,
 ⟨(some 21), none, .bin .neq (.t 20) (.c (.int .i64 0))⟩] [] false)
(.cond (.t 21)
 (.seq
 (.reg [⟨(some 22), none, .build [(.sl true []), (.sl true [])] []⟩,
  ⟨(some 23), none, .mov (.t 5)⟩,
  ⟨none, none, .store 2 (.t 2) (.t 22)⟩,
  ⟨(some 3), none, .mov (.t 23)⟩] [] false)
 .ret)
 .skip))
(.seq
(.reg [⟨(some 25), none, .mov (.t 4)⟩,
 ⟨(some 26), none, .call (.c (.fn 88 [] [])) [(.t 25), (.c (.int .i64 0))]⟩,
 ⟨(some 24), none, .mov (.t 26)⟩,
 ⟨(some 27), none, .ext (.t 24) 0⟩,
 ⟨(some 28), none, .ext (.t 24) 1⟩,
 ⟨(some 6), none, .mov (.t 27)⟩,
 ⟨(some 7), none, .mov (.t 28)⟩] [] false)
(.seq
(.reg [⟨(some 29), none, .mov (.t 6)⟩,
 ⟨(some 30), none, .call (.c (.fn 89 [] [])) [(.t 29)]⟩,
 ⟨(some 8), none, .mov (.t 30)⟩] [] false)
(.seq
(.reg [⟨(some 32), none, .mov (.t 4)⟩,
 ⟨(some 33), none, .mov (.t 7)⟩,
 ⟨(some 34), none, .call (.c (.fn 90 [] [])) [(.t 32), (.t 33), (.c (.int .i64 (-1))), (.c (.sl true [])), (.c (.int .i64 0))]⟩,
 ⟨(some 31), none, .mov (.t 34)⟩,
 ⟨(some 35), none, .ext (.t 31) 0⟩,
 ⟨(some 36), none, .ext (.t 31) 1⟩,
 ⟨(some 37), none, .ext (.t 31) 2⟩,
 ⟨(some 9), none, .mov (.t 35)⟩,
 ⟨(some 10), none, .mov (.t 36)⟩,
 ⟨(some 11), none, .mov (.t 37)⟩] [] false)
(.seq
(.seq
(.reg [⟨(some 38), none, .mov (.t 8)⟩,
 ⟨(some 39), none, .un .not (.t 38)⟩,
 ⟨(some 40), none, .mov (.t 39)⟩,
 ⟨(some 41), (some (40, false)), .mov (.t 11)⟩,
 ⟨(some 42), (some (40, false)), .un .not (.t 41)⟩,
 ⟨(some 43), none, .pick (.t 40) (.c (.bool true)) (.t 42)⟩] [] false)
(.cond (.t 43)
 (.seq
 (.reg [⟨(some 44), none, .build [(.sl true []), (.sl true [])] []⟩,
  ⟨none, none, .store 2 (.t 2) (.t 44)⟩,
  ⟨(some 3), none, .mov (.c (.int .i64 15))⟩] [] false)
 .ret)
 .skip))
(.seq
(.reg [⟨(some 46), none, .mov (.t 4)⟩,
 ⟨(some 47), none, .mov (.t 10)⟩,
 ⟨(some 48), none, .call (.c (.fn 88 [] [])) [(.t 46), (.t 47)]⟩,
 ⟨(some 45), none, .mov (.t 48)⟩,
 ⟨(some 49), none, .ext (.t 45) 0⟩,
 ⟨(some 50), none, .ext (.t 45) 1⟩,
 ⟨(some 12), none, .mov (.t 49)⟩,
 ⟨(some 13), none, .mov (.t 50)⟩] [] false)
(.seq
(.reg [⟨(some 51), none, .mov (.t 12)⟩,
 ⟨(some 52), none, .call (.c (.fn 89 [] [])) [(.t 51)]⟩,
 ⟨(some 14), none, .mov (.t 52)⟩] [] false)
(.seq
(.seq
(.reg [⟨(some 53), none, .mov (.t 14)⟩,
 ⟨(some 54), none, .un .not (.t 53)⟩,
 ⟨(some 55), none, .mov (.t 54)⟩,
 ⟨(some 56), (some (55, false)), .mov (.t 13)⟩,
 ⟨(some 57), (some (55, false)), .mov (.t 4)⟩,
 ⟨(some 58), (some (55, false)), .len (.t 57)⟩,
 ⟨(some 59), (some (55, false)), .bin .lss (.t 56) (.t 58)⟩,
 ⟨(some 60), none, .pick (.t 55) (.c (.bool true)) (.t 59)⟩] [] false)
(.cond (.t 60)
 (.seq
 (.reg [⟨(some 61), none, .build [(.sl true []), (.sl true [])] []⟩,
  ⟨none, none, .store 2 (.t 2) (.t 61)⟩,
  ⟨(some 3), none, .mov (.c (.int .i64 15))⟩] [] false)
 .ret)
 .skip))
(.seq
(.reg [⟨(some 62), none, .mov (.t 9)⟩,
 ⟨(some 63), none, .call (.c (.fn 91 [] [])) [(.t 62)]⟩,
 ⟨(some 64), none, .ext (.t 63) 0⟩,
 ⟨(some 65), none, .ext (.t 63) 1⟩,
 ⟨none, none, .store 2 (.t 2) (.t 64)⟩,
 ⟨(some 3), none, .mov (.t 65)⟩] [] false)
.ret)))))))))))⟩
-- 23 topiary/topiaryref16.Build
def n_ref16_Build : Nat := 23
def af_ref16_Build : AF := ⟨113, [.cell 2 true 5, .tmp 3],
(.seq
(.reg [⟨(some 1), none, .box (.t 0)⟩,
 ⟨(some 2), none, .alc (.agg [(.sl true []), (.sl true []), (.sl true []), (.sl true []), (.sl true [])])⟩,
 ⟨(some 3), none, .mov (.c (.bool false))⟩] [] false)
(.seq
(.reg [⟨(some 4), none, .alc (.agg [(.sl true []), (.sl true []), (.sl true []), (.sl true []), (.sl true [])])⟩] [] false)
(.seq
(.reg [⟨(some 14), none, .load true 2 (.t 1)⟩,
 ⟨(some 15), none, .call (.c (.fn 92 [] [])) [(.t 14)]⟩,
 ⟨(some 16), none, .fad 0 (.t 4)⟩,
 ⟨none, none, .store 1 (.t 16) (.t 15)⟩] [] false)
(.seq
(.seq
(.reg [⟨(some 5), none, .mov (.c (.int .i64 0))⟩] [] false)
(.block 0
 (.loop
  (.seq
  (.seq
  (.reg [⟨(some 17), none, .mov (.t 5)⟩,
   ⟨(some 18), none, .fad 0 (.t 4)⟩,
   ⟨(some 19), none, .load false 1 (.t 18)⟩,
   ⟨(some 20), none, .len (.t 19)⟩,
   ⟨(some 21), none, .bin .lss (.t 17) (.t 20)⟩] [] false)
  (.cond (.t 21)
   .skip
   (.exit 0)))
  (.seq
  (.block 1
   (.seq
   (.reg [⟨(some 24), none, .fad 0 (.t 4)⟩,
    ⟨(some 25), none, .load false 1 (.t 24)⟩,
    ⟨(some 26), none, .mov (.t 5)⟩,
    ⟨(some 27), none, .idx 1 (.t 25) (.t 26)⟩,
    ⟨(some 28), none, .load false 1 (.t 27)⟩,
    ⟨(some 6), none, .mov (.t 28)⟩] [] false)
   (.seq
   (.reg [⟨(some 29), none, .load true 2 (.t 1)⟩,
    ⟨(some 30), none, .mov (.t 6)⟩,
    ⟨(some 31), none, .call (.c (.fn 67 [] [])) [(.t 29), (.t 30)]⟩,
    ⟨(some 7), none, .mov (.t 31)⟩] [] false)
   (.seq
   (.seq
   (.reg [⟨(some 32), none, .mov (.t 7)⟩,
    ⟨(some 33), none, .bin .lss (.t 32) (.c (.int .i64 0))⟩] [] false)
   (.cond (.t 33)
    (.seq
    (.reg [⟨(some 34), none, .build [(.sl true []), (.sl true []), (.sl true []), (.sl true []), (.sl true [])] []⟩,
     ⟨none, none, .store 5 (.t 2) (.t 34)⟩,
     ⟨(some 3), none, .mov (.c (.bool false))⟩] [] false)
    .ret)
    .skip))
   (.seq
   (.reg [⟨(some 8), none, .mov (.c (.bool true))⟩] [] false)
   (.seq
   (.seq
   (.reg [⟨(some 35), none, .mov (.t 6)⟩,
    ⟨(some 36), none, .bin .add (.t 35) (.c (.int .i64 1))⟩,
    ⟨(some 9), none, .mov (.t 36)⟩] [] false)
   (.block 2
    (.loop
     (.seq
     (.seq
     (.reg [⟨(some 37), none, .mov (.t 9)⟩,
      ⟨(some 38), none, .fad 1 (.t 1)⟩,
      ⟨(some 39), none, .load false 1 (.t 38)⟩,
      ⟨(some 40), none, .len (.t 39)⟩,
      ⟨(some 41), none, .bin .lss (.t 37) (.t 40)⟩] [] false)
     (.cond (.t 41)
      .skip
      (.exit 2)))
     (.seq
     (.block 3
      (.reg [⟨(some 44), none, .mov (.t 8)⟩,
       ⟨(some 45), none, .mov (.t 44)⟩,
       ⟨(some 46), (some (45, true)), .load true 2 (.t 1)⟩,
       ⟨(some 47), (some (45, true)), .mov (.t 9)⟩,
       ⟨(some 48), (some (45, true)), .call (.c (.fn 70 [] [])) [(.t 46), (.t 47)]⟩,
       ⟨(some 49), (some (45, true)), .load true 2 (.t 1)⟩,
       ⟨(some 50), (some (45, true)), .mov (.t 6)⟩,
       ⟨(some 51), (some (45, true)), .call (.c (.fn 70 [] [])) [(.t 49), (.t 50)]⟩,
       ⟨(some 52), (some (45, true)), .bin .neq (.t 48) (.t 51)⟩,
       ⟨(some 53), none, .pick (.t 45) (.t 52) (.c (.bool false))⟩,
       ⟨(some 8), none, .mov (.t 53)⟩] [] true))
     (.reg [⟨(some 42), none, .mov (.t 9)⟩,
      ⟨(some 43), none, .bin .add (.t 42) (.c (.int .i64 1))⟩,
      ⟨(some 9), none, .mov (.t 43)⟩] [] false))))))
   (.seq
   (.reg [⟨(some 54), none, .fad 1 (.t 4)⟩,
    ⟨(some 55), none, .load false 1 (.t 54)⟩,
    ⟨(some 56), none, .mov (.t 8)⟩,
    ⟨(some 57), none, .bsl 4 1 [(.t 56)]⟩,
    ⟨(some 58), none, .app 4 1 1 (.t 55) (.t 57)⟩,
    ⟨(some 59), none, .fad 1 (.t 4)⟩,
    ⟨none, none, .store 1 (.t 59) (.t 58)⟩] [] false)
   (.seq
   (.reg [⟨(some 60), none, .fad 2 (.t 4)⟩,
    ⟨(some 61), none, .load false 1 (.t 60)⟩,
    ⟨(some 62), none, .mov (.t 7)⟩,
    ⟨(some 63), none, .bsl 3 1 [(.t 62)]⟩,
    ⟨(some 64), none, .app 3 1 8 (.t 61) (.t 63)⟩,
    ⟨(some 65), none, .fad 2 (.t 4)⟩,
    ⟨none, none, .store 1 (.t 65) (.t 64)⟩] [] false)
   (.reg [⟨(some 66), none, .fad 3 (.t 4)⟩,
    ⟨(some 67), none, .load false 1 (.t 66)⟩,
    ⟨(some 68), none, .load true 2 (.t 1)⟩,
    ⟨(some 69), none, .mov (.t 6)⟩,
    ⟨(some 70), none, .call (.c (.fn 35 [] [])) [(.t 68), (.t 69)]⟩,
    ⟨(some 71), none, .len (.t 70)⟩,
    ⟨(some 72), none, .bin .eql (.t 71) (.c (.int .i64 0))⟩,
    ⟨(some 73), none, .bsl 4 1 [(.t 72)]⟩,
    ⟨(some 74), none, .app 4 1 1 (.t 67) (.t 73)⟩,
    ⟨(some 75), none, .fad 3 (.t 4)⟩,
    ⟨none, none, .store 1 (.t 75) (.t 74)⟩] [] true)))))))))
  (.reg [⟨(some 22), none, .mov (.t 5)⟩,
   ⟨(some 23), none, .bin .add (.t 22) (.c (.int .i64 1))⟩,
   ⟨(some 5), none, .mov (.t 23)⟩] [] false))))))
(.seq
(.seq
(.reg [⟨(some 10), none, .mov (.c (.int .i64 0))⟩] [] false)
(.block 4
 (.loop
  (.seq
  (.seq
  (.reg [⟨(some 76), none, .mov (.t 10)⟩,
   ⟨(some 77), none, .fad 0 (.t 1)⟩,
   ⟨(some 78), none, .load false 1 (.t 77)⟩,
   ⟨(some 79), none, .len (.t 78)⟩,
   ⟨(some 80), none, .bin .mul (.c (.int .i64 2)) (.t 79)⟩,
   ⟨(some 81), none, .bin .add (.t 80) (.c (.int .i64 1))⟩,
   ⟨(some 82), none, .bin .leq (.t 76) (.t 81)⟩] [] false)
  (.cond (.t 82)
   .skip
   (.exit 4)))
  (.seq
  (.block 5
   (.seq
   (.reg [⟨(some 11), none, .mov (.c (.int .i64 0))⟩] [] false)
   (.seq
   (.seq
   (.reg [⟨(some 12), none, .mov (.c (.int .i64 0))⟩] [] false)
   (.block 6
    (.loop
     (.seq
     (.seq
     (.reg [⟨(some 85), none, .mov (.t 12)⟩,
      ⟨(some 86), none, .fad 1 (.t 1)⟩,
      ⟨(some 87), none, .load false 1 (.t 86)⟩,
      ⟨(some 88), none, .len (.t 87)⟩,
      ⟨(some 89), none, .bin .lss (.t 85) (.t 88)⟩] [] false)
     (.cond (.t 89)
      .skip
      (.exit 6)))
     (.seq
     (.block 7
      (.seq
      (.reg [⟨(some 92), none, .load true 2 (.t 1)⟩,
       ⟨(some 93), none, .mov (.t 12)⟩,
       ⟨(some 94), none, .call (.c (.fn 70 [] [])) [(.t 92), (.t 93)]⟩,
       ⟨(some 13), none, .mov (.t 94)⟩] [] false)
      (.seq
      (.reg [⟨(some 95), none, .mov (.t 13)⟩,
       ⟨(some 96), none, .bin .lss (.t 95) (.c (.int .i64 0))⟩,
       ⟨(some 97), none, .mov (.t 96)⟩,
       ⟨(some 98), (some (97, false)), .load true 2 (.t 1)⟩,
       ⟨(some 99), (some (97, false)), .mov (.t 13)⟩,
       ⟨(some 100), (some (97, false)), .call (.c (.fn 67 [] [])) [(.t 98), (.t 99)]⟩,
       ⟨(some 101), (some (97, false)), .mov (.t 10)⟩,
       ⟨(some 102), (some (97, false)), .bin .lss (.t 100) (.t 101)⟩,
       ⟨(some 103), none, .pick (.t 97) (.c (.bool true)) (.t 102)⟩] [] false)
      (.cond (.t 103)
       (.reg [⟨(some 104), none, .mov (.t 11)⟩,
        ⟨(some 105), none, .bin .add (.t 104) (.c (.int .i64 1))⟩,
        ⟨(some 11), none, .mov (.t 105)⟩] [] false)
       .skip))))
     (.reg [⟨(some 90), none, .mov (.t 12)⟩,
      ⟨(some 91), none, .bin .add (.t 90) (.c (.int .i64 1))⟩,
      ⟨(some 12), none, .mov (.t 91)⟩] [] false))))))
   (.reg [⟨(some 106), none, .fad 4 (.t 4)⟩,
    ⟨(some 107), none, .load false 1 (.t 106)⟩,
    ⟨(some 108), none, .mov (.t 11)⟩,
    ⟨(some 109), none, .bsl 3 1 [(.t 108)]⟩,
    ⟨(some 110), none, .app 3 1 8 (.t 107) (.t 109)⟩,
    ⟨(some 111), none, .fad 4 (.t 4)⟩,
    ⟨none, none, .store 1 (.t 111) (.t 110)⟩] [] false))))
  (.reg [⟨(some 83), none, .mov (.t 10)⟩,
   ⟨(some 84), none, .bin .add (.t 83) (.c (.int .i64 1))⟩,
   ⟨(some 10), none, .mov (.t 84)⟩] [] false))))))
(.seq
(.reg [⟨(some 112), none, .load true 5 (.t 4)⟩,
 ⟨none, none, .store 5 (.t 2) (.t 112)⟩,
 ⟨(some 3), none, .mov (.c (.bool true))⟩] [] false)
.ret))))))⟩
-- 24 topiary/nav.New
def n_nav_New : Nat := 24
def af_nav_New : AF := ⟨74, [.cell 4 true 19, .tmp 5],
(.seq
(.reg [⟨(some 2), none, .box (.t 0)⟩,
 ⟨(some 4), none, .alc (.agg [(.int .i64 0), (.int .i64 0), (.sl true []), (.int .i64 0), (.sl true []), (.int .i64 0), (.int .i64 0), (.int .i64 0), (.int .i64 0), (.sl true []), (.sl true []), (.int .i64 0), (.int .i64 0), (.int .i64 0), (.sl true []), (.int .i64 0), (.int .i64 0), (.int .i64 0), (.sl true [])])⟩,
 ⟨(some 5), none, .mov (.c (.int .i64 0))⟩] [] false)
(.seq
(.seq
(.reg [⟨(some 12), none, .load true 5 (.t 2)⟩,
 ⟨(some 13), none, .mov (.t 1)⟩,
 ⟨(some 14), none, .call (.c (.fn 93 [] [])) [(.t 12), (.t 13)]⟩,
 ⟨(some 15), none, .un .not (.t 14)⟩] [] false)
(.cond (.t 15)
 (.seq
 (.reg [⟨(some 16), none, .build [(.int .i64 0), (.int .i64 0), (.sl true []), (.int .i64 0), (.sl true []), (.int .i64 0), (.int .i64 0), (.int .i64 0), (.int .i64 0), (.sl true []), (.sl true []), (.int .i64 0), (.int .i64 0), (.int .i64 0), (.sl true []), (.int .i64 0), (.int .i64 0), (.int .i64 0), (.sl true [])] []⟩,
  ⟨none, none, .store 19 (.t 4) (.t 16)⟩,
  ⟨(some 5), none, .mov (.c (.int .i64 10))⟩] [] false)
 .ret)
 .skip))
(.seq
(.reg [⟨(some 18), none, .fad 0 (.t 2)⟩,
 ⟨(some 19), none, .load false 1 (.t 18)⟩,
 ⟨(some 20), none, .call (.c (.fn 94 [] [])) [(.t 19)]⟩,
 ⟨(some 17), none, .mov (.t 20)⟩,
 ⟨(some 21), none, .ext (.t 17) 0⟩,
 ⟨(some 22), none, .ext (.t 17) 1⟩,
 ⟨(some 6), none, .mov (.t 21)⟩,
 ⟨(some 7), none, .mov (.t 22)⟩] [] false)
(.seq
(.seq
(.reg [⟨(some 23), none, .mov (.t 7)⟩,
 ⟨(some 24), none, .bin .neq (.t 23) (.c (.int .i64 0))⟩,
 ⟨(some 25), none, .mov (.t 24)⟩,
 ⟨(some 26), (some (25, false)), .fad 4 (.t 2)⟩,
 ⟨(some 27), (some (25, false)), .load false 1 (.t 26)⟩,
 ⟨(some 28), (some (25, false)), .call (.c (.fn 95 [] [])) [(.t 27)]⟩,
 ⟨(some 29), (some (25, false)), .un .not (.t 28)⟩,
 ⟨(some 30), none, .pick (.t 25) (.c (.bool true)) (.t 29)⟩] [] false)
(.cond (.t 30)
 (.seq
 (.reg [⟨(some 31), none, .build [(.int .i64 0), (.int .i64 0), (.sl true []), (.int .i64 0), (.sl true []), (.int .i64 0), (.int .i64 0), (.int .i64 0), (.int .i64 0), (.sl true []), (.sl true []), (.int .i64 0), (.int .i64 0), (.int .i64 0), (.sl true []), (.int .i64 0), (.int .i64 0), (.int .i64 0), (.sl true [])] []⟩,
  ⟨none, none, .store 19 (.t 4) (.t 31)⟩,
  ⟨(some 5), none, .mov (.c (.int .i64 10))⟩] [] false)
 .ret)
 .skip))
(.seq
(.reg [⟨(some 33), none, .load true 5 (.t 2)⟩,
 ⟨(some 34), none, .mov (.t 6)⟩,
 ⟨(some 35), none, .call (.c (.fn 96 [] [])) [(.t 33), (.t 34)]⟩,
 ⟨(some 32), none, .mov (.t 35)⟩,
 ⟨(some 36), none, .ext (.t 32) 0⟩,
 ⟨(some 37), none, .ext (.t 32) 1⟩,
 ⟨(some 8), none, .alc (.agg [(.int .i64 0), (.int .i64 0), (.sl true []), (.int .i64 0), (.sl true []), (.int .i64 0), (.int .i64 0), (.int .i64 0), (.int .i64 0), (.sl true []), (.sl true []), (.int .i64 0), (.int .i64 0), (.int .i64 0), (.sl true []), (.int .i64 0), (.int .i64 0), (.int .i64 0), (.sl true [])])⟩,
 ⟨none, none, .store 19 (.t 8) (.t 36)⟩,
 ⟨(some 7), none, .mov (.t 37)⟩] [] false)
(.seq
(.seq
(.reg [⟨(some 38), none, .mov (.t 7)⟩,
 ⟨(some 39), none, .bin .neq (.t 38) (.c (.int .i64 0))⟩] [] false)
(.cond (.t 39)
 (.seq
 (.reg [⟨(some 40), none, .build [(.int .i64 0), (.int .i64 0), (.sl true []), (.int .i64 0), (.sl true []), (.int .i64 0), (.int .i64 0), (.int .i64 0), (.int .i64 0), (.sl true []), (.sl true []), (.int .i64 0), (.int .i64 0), (.int .i64 0), (.sl true []), (.int .i64 0), (.int .i64 0), (.int .i64 0), (.sl true [])] []⟩,
  ⟨(some 41), none, .mov (.t 7)⟩,
  ⟨none, none, .store 19 (.t 4) (.t 40)⟩,
  ⟨(some 5), none, .mov (.t 41)⟩] [] false)
 .ret)
 .skip))
(.seq
(.reg [⟨(some 43), none, .load true 19 (.t 8)⟩,
 ⟨(some 44), none, .load true 5 (.t 2)⟩,
 ⟨(some 45), none, .mov (.t 1)⟩,
 ⟨(some 46), none, .call (.c (.fn 97 [] [])) [(.t 43), (.t 44), (.t 45)]⟩,
 ⟨(some 42), none, .mov (.t 46)⟩,
 ⟨(some 47), none, .ext (.t 42) 0⟩,
 ⟨(some 48), none, .ext (.t 42) 1⟩,
 ⟨(some 9), none, .alc (.agg [(.sl true []), (.sl true [])])⟩,
 ⟨none, none, .store 2 (.t 9) (.t 47)⟩,
 ⟨(some 10), none, .mov (.t 48)⟩] [] false)
(.seq
(.seq
(.reg [⟨(some 49), none, .mov (.t 10)⟩,
 ⟨(some 50), none, .un .not (.t 49)⟩,
 ⟨(some 51), none, .mov (.t 50)⟩,
 ⟨(some 52), (some (51, false)), .fad 4 (.t 2)⟩,
 ⟨(some 53), (some (51, false)), .load false 1 (.t 52)⟩,
 ⟨(some 54), (some (51, false)), .idx 1 (.t 53) (.c (.int .i64 0))⟩,
 ⟨(some 55), (some (51, false)), .load false 1 (.t 54)⟩,
 ⟨(some 56), (some (51, false)), .bin .neq (.t 55) (.c (.int .i64 1))⟩,
 ⟨(some 57), none, .pick (.t 51) (.c (.bool true)) (.t 56)⟩] [] false)
(.cond (.t 57)
 (.seq
 (.reg [⟨(some 58), none, .build [(.int .i64 0), (.int .i64 0), (.sl true []), (.int .i64 0), (.sl true []), (.int .i64 0), (.int .i64 0), (.int .i64 0), (.int .i64 0), (.sl true []), (.sl true []), (.int .i64 0), (.int .i64 0), (.int .i64 0), (.sl true []), (.int .i64 0), (.int .i64 0), (.int .i64 0), (.sl true [])] []⟩,
  ⟨none, none, .store 19 (.t 4) (.t 58)⟩,
  ⟨(some 5), none, .mov (.c (.int .i64 10))⟩] [] false)
 .ret)
 .skip))
(.seq
(.reg [⟨(some 60), none, .load true 2 (.t 9)⟩,
 ⟨(some 61), none, .call (.c (.fn 98 [] [])) [(.t 60)]⟩,
 ⟨(some 59), none, .mov (.t 61)⟩,
 ⟨(some 62), none, .ext (.t 59) 0⟩,
 ⟨(some 63), none, .ext (.t 59) 1⟩,
 ⟨(some 11), none, .alc (.agg [(.sl true []), (.sl true []), (.sl true []), (.sl true []), (.sl true [])])⟩,
 ⟨none, none, .store 5 (.t 11) (.t 62)⟩,
 ⟨(some 7), none, .mov (.t 63)⟩] [] false)
(.seq
(.seq
(.reg [⟨(some 64), none, .mov (.t 7)⟩,
 ⟨(some 65), none, .bin .neq (.t 64) (.c (.int .i64 0))⟩,
 ⟨(some 66), none, .mov (.t 65)⟩,
 ⟨(some 67), (some (66, false)), .load true 5 (.t 11)⟩,
 ⟨(some 68), (some (66, false)), .load true 5 (.t 2)⟩,
 ⟨(some 69), (some (66, false)), .call (.c (.fn 99 [] [])) [(.t 67), (.t 68)]⟩,
 ⟨(some 70), (some (66, false)), .un .not (.t 69)⟩,
 ⟨(some 71), none, .pick (.t 66) (.c (.bool true)) (.t 70)⟩] [] false)
(.cond (.t 71)
 (.seq
 (.reg [⟨(some 72), none, .build [(.int .i64 0), (.int .i64 0), (.sl true []), (.int .i64 0), (.sl true []), (.int .i64 0), (.int .i64 0), (.int .i64 0), (.int .i64 0), (.sl true []), (.sl true []), (.int .i64 0), (.int .i64 0), (.int .i64 0), (.sl true []), (.int .i64 0), (.int .i64 0), (.int .i64 0), (.sl true [])] []⟩,
  ⟨none, none, .store 19 (.t 4) (.t 72)⟩,
  ⟨(some 5), none, .mov (.c (.int .i64 10))⟩] [] false)
 .ret)
 .skip))
(.seq
(.reg [⟨(some 73), none, .load true 19 (.t 8)⟩,
 ⟨none, none, .store 19 (.t 4) (.t 73)⟩,
 ⟨(some 5), none, .mov (.c (.int .i64 0))⟩] [] false)
.ret)))))))))))⟩
-- 26 (topiary/nav.Nav).Len
def n_nav_Nav_Len : Nat := 26
def af_nav_Nav_Len : AF := ⟨6, [.tmp 2],
(.seq
(.reg [⟨(some 1), none, .box (.t 0)⟩,
 ⟨(some 2), none, .mov (.c (.int .i64 0))⟩] [] false)
(.seq
(.reg [⟨(some 3), none, .fad 11 (.t 1)⟩,
 ⟨(some 4), none, .load true 4 (.t 3)⟩,
 ⟨(some 5), none, .call (.c (.fn 101 [] [])) [(.t 4)]⟩,
 ⟨(some 2), none, .mov (.t 5)⟩] [] false)
.ret))⟩
-- 29 topiary/topiarylaw18.awake
def n_law18_awake : Nat := 29
def af_law18_awake : AF := ⟨59, [.tmp 0],
(.seq
(.reg [⟨(some 0), none, .mov (.c (.bool false))⟩] [] false)
(.seq
(.reg [⟨(some 11), none, .call (.c (.fn 30 [] [])) [(.c (.str ⟨#[60, 97, 62, 60, 98, 62, 60, 97, 47, 62, 60, 47, 98, 62, 60, 98, 47, 62, 60, 47, 97, 62]⟩))]⟩,
 ⟨(some 10), none, .mov (.t 11)⟩,
 ⟨(some 12), none, .ext (.t 10) 0⟩,
 ⟨(some 13), none, .ext (.t 10) 1⟩,
 ⟨(some 14), none, .ext (.t 10) 2⟩,
 ⟨(some 15), none, .ext (.t 10) 3⟩,
 ⟨(some 1), none, .alc (.agg [(.int .i64 0), (.int .i64 0), (.sl true []), (.int .i64 0), (.sl true []), (.int .i64 0), (.int .i64 0), (.int .i64 0), (.int .i64 0), (.sl true []), (.sl true []), (.int .i64 0), (.int .i64 0), (.int .i64 0), (.sl true []), (.int .i64 0), (.int .i64 0), (.int .i64 0), (.sl true [])])⟩,
 ⟨(some 2), none, .alc (.agg [(.sl true []), (.sl true [])])⟩,
 ⟨none, none, .store 19 (.t 1) (.t 12)⟩,
 ⟨none, none, .store 2 (.t 2) (.t 13)⟩,
 ⟨(some 3), none, .mov (.t 14)⟩,
 ⟨(some 4), none, .mov (.t 15)⟩] [] false)
(.seq
(.reg [⟨(some 17), none, .load true 19 (.t 1)⟩,
 ⟨(some 18), none, .bsl 3 1 [(.c (.int .i64 0))]⟩,
 ⟨(some 19), none, .call (.c (.fn 32 [] [])) [(.t 17), (.t 18)]⟩,
 ⟨(some 16), none, .mov (.t 19)⟩,
 ⟨(some 20), none, .ext (.t 16) 0⟩,
 ⟨(some 21), none, .ext (.t 16) 1⟩,
 ⟨(some 5), none, .mov (.t 20)⟩,
 ⟨(some 6), none, .mov (.t 21)⟩] [] false)
(.seq
(.reg [⟨(some 23), none, .load true 19 (.t 1)⟩,
 ⟨(some 24), none, .bsl 3 1 [(.c (.int .i64 0)), (.c (.int .i64 2))]⟩,
 ⟨(some 25), none, .call (.c (.fn 32 [] [])) [(.t 23), (.t 24)]⟩,
 ⟨(some 22), none, .mov (.t 25)⟩,
 ⟨(some 26), none, .ext (.t 22) 0⟩,
 ⟨(some 27), none, .ext (.t 22) 1⟩,
 ⟨(some 7), none, .mov (.t 26)⟩,
 ⟨(some 8), none, .mov (.t 27)⟩] [] false)
(.seq
(.reg [⟨(some 28), none, .load true 19 (.t 1)⟩,
 ⟨(some 29), none, .bsl 3 1 [(.c (.int .i64 2)), (.c (.int .i64 0))]⟩,
 ⟨(some 30), none, .call (.c (.fn 34 [] [])) [(.t 28), (.t 29)]⟩,
 ⟨(some 31), none, .bsl 3 1 [(.c (.int .i64 2))]⟩,
 ⟨(some 32), none, .call (.c (.fn 38 [] [])) [(.t 30), (.t 31)]⟩,
 ⟨(some 9), none, .mov (.t 32)⟩] [] false)
(.seq
(.reg [⟨(some 33), none, .mov (.t 3)⟩,
 ⟨(some 34), none, .mov (.t 33)⟩,
 ⟨(some 35), (some (34, true)), .mov (.t 5)⟩,
 ⟨(some 36), (some (34, true)), .bin .eql (.t 35) (.c (.int .i64 1))⟩,
 ⟨(some 37), none, .pick (.t 34) (.t 36) (.c (.bool false))⟩,
 ⟨(some 38), none, .mov (.t 37)⟩,
 ⟨(some 39), (some (38, true)), .mov (.t 6)⟩,
 ⟨(some 40), (some (38, true)), .bin .eql (.t 39) (.c (.int .i64 3))⟩,
 ⟨(some 41), none, .pick (.t 38) (.t 40) (.c (.bool false))⟩,
 ⟨(some 42), none, .mov (.t 41)⟩,
 ⟨(some 43), (some (42, true)), .mov (.t 7)⟩,
 ⟨(some 44), (some (42, true)), .bin .eql (.t 43) (.c (.int .i64 3))⟩,
 ⟨(some 45), none, .pick (.t 42) (.t 44) (.c (.bool false))⟩,
 ⟨(some 46), none, .mov (.t 45)⟩,
 ⟨(some 47), (some (46, true)), .mov (.t 8)⟩,
 ⟨(some 48), (some (46, true)), .bin .eql (.t 47) (.c (.int .i64 4))⟩,
 ⟨(some 49), none, .pick (.t 46) (.t 48) (.c (.bool false))⟩,
 ⟨(some 50), none, .mov (.t 49)⟩,
 ⟨(some 51), (some (50, true)), .load true 19 (.t 1)⟩,
 ⟨(some 52), (some (50, true)), .bsl 3 1 [(.c (.int .i64 0)), (.c (.int .i64 2))]⟩,
 ⟨(some 53), (some (50, true)), .call (.c (.fn 40 [] [])) [(.t 51), (.t 52)]⟩,
 ⟨(some 54), (some (50, true)), .bin .eql (.t 53) (.c (.int .i64 2))⟩,
 ⟨(some 55), none, .pick (.t 50) (.t 54) (.c (.bool false))⟩,
 ⟨(some 56), none, .mov (.t 55)⟩,
 ⟨(some 57), (some (56, true)), .mov (.t 9)⟩,
 ⟨(some 58), none, .pick (.t 56) (.t 57) (.c (.bool false))⟩,
 ⟨(some 0), none, .mov (.t 58)⟩] [] false)
.ret))))))⟩
-- 30 topiary/topiarylaw18.of
def n_law18_of : Nat := 30
def af_law18_of : AF := ⟨43, [.cell 2 true 19, .cell 3 true 2, .tmp 4, .tmp 5],
(.seq
(.reg [⟨(some 2), none, .alc (.agg [(.int .i64 0), (.int .i64 0), (.sl true []), (.int .i64 0), (.sl true []), (.int .i64 0), (.int .i64 0), (.int .i64 0), (.int .i64 0), (.sl true []), (.sl true []), (.int .i64 0), (.int .i64 0), (.int .i64 0), (.sl true []), (.int .i64 0), (.int .i64 0), (.int .i64 0), (.sl true [])])⟩,
 ⟨(some 3), none, .alc (.agg [(.sl true []), (.sl true [])])⟩,
 ⟨(some 4), none, .mov (.c (.bool false))⟩,
 ⟨(some 5), none, .mov (.c (.bool false))⟩] [] false)
(.seq
(.seq
(.reg [⟨(some 12), none, .mov (.t 0)⟩,
 ⟨(some 13), none, .slen (.t 12)⟩,
 ⟨(some 14), none, .bin .gtr (.t 13) (.c (.int .i64 200))⟩] [] false)
(.cond (.t 14)
 (.reg [⟨(some 15), none, .mov (.t 0)⟩,
  ⟨(some 16), none, .slc 0 (.t 15) none (some (.c (.int .i64 200))) none⟩,
  ⟨(some 0), none, .mov (.t 16)⟩] [] false)
 .skip))
(.seq
(.reg [⟨(some 18), none, .mov (.t 0)⟩,
 ⟨(some 19), none, .call (.c (.fn 22 [] [])) [(.t 18)]⟩,
 ⟨(some 17), none, .mov (.t 19)⟩,
 ⟨(some 20), none, .ext (.t 17) 0⟩,
 ⟨(some 21), none, .ext (.t 17) 1⟩,
 ⟨(some 6), none, .alc (.agg [(.sl true []), (.sl true [])])⟩,
 ⟨none, none, .store 2 (.t 6) (.t 20)⟩,
 ⟨(some 7), none, .mov (.t 21)⟩] [] false)
(.seq
(.seq
(.reg [⟨(some 22), none, .mov (.t 7)⟩,
 ⟨(some 23), none, .bin .neq (.t 22) (.c (.int .i64 0))⟩] [] false)
(.cond (.t 23)
 (.seq
 (.reg [⟨(some 24), none, .build [(.int .i64 0), (.int .i64 0), (.sl true []), (.int .i64 0), (.sl true []), (.int .i64 0), (.int .i64 0), (.int .i64 0), (.int .i64 0), (.sl true []), (.sl true []), (.int .i64 0), (.int .i64 0), (.int .i64 0), (.sl true []), (.int .i64 0), (.int .i64 0), (.int .i64 0), (.sl true [])] []⟩,
  ⟨(some 25), none, .load true 2 (.t 6)⟩,
  ⟨none, none, .store 19 (.t 2) (.t 24)⟩,
  ⟨none, none, .store 2 (.t 3) (.t 25)⟩,
  ⟨(some 4), none, .mov (.c (.bool false))⟩,
  ⟨(some 5), none, .mov (.c (.bool false))⟩] [((.t 6), (.t 2))] false)
 .ret)
 .skip))
(.seq
(.reg [⟨(some 27), none, .load true 2 (.t 6)⟩,
 ⟨(some 28), none, .call (.c (.fn 23 [] [])) [(.t 27)]⟩,
 ⟨(some 26), none, .mov (.t 28)⟩,
 ⟨(some 29), none, .ext (.t 26) 0⟩,
 ⟨(some 30), none, .ext (.t 26) 1⟩,
 ⟨(some 8), none, .alc (.agg [(.sl true []), (.sl true []), (.sl true []), (.sl true []), (.sl true [])])⟩,
 ⟨none, none, .store 5 (.t 8) (.t 29)⟩,
 ⟨(some 9), none, .mov (.t 30)⟩] [] false)
(.seq
(.reg [⟨(some 32), none, .load true 5 (.t 8)⟩,
 ⟨(some 33), none, .fad 0 (.t 6)⟩,
 ⟨(some 34), none, .load false 1 (.t 33)⟩,
 ⟨(some 35), none, .len (.t 34)⟩,
 ⟨(some 36), none, .call (.c (.fn 24 [] [])) [(.t 32), (.t 35)]⟩,
 ⟨(some 31), none, .mov (.t 36)⟩,
 ⟨(some 37), none, .ext (.t 31) 0⟩,
 ⟨(some 38), none, .ext (.t 31) 1⟩,
 ⟨(some 10), none, .alc (.agg [(.int .i64 0), (.int .i64 0), (.sl true []), (.int .i64 0), (.sl true []), (.int .i64 0), (.int .i64 0), (.int .i64 0), (.int .i64 0), (.sl true []), (.sl true []), (.int .i64 0), (.int .i64 0), (.int .i64 0), (.sl true []), (.int .i64 0), (.int .i64 0), (.int .i64 0), (.sl true [])])⟩,
 ⟨none, none, .store 19 (.t 10) (.t 37)⟩,
 ⟨(some 11), none, .mov (.t 38)⟩] [] false)
(.seq
(.reg [⟨(some 39), none, .load true 19 (.t 10)⟩,
 ⟨(some 40), none, .load true 2 (.t 6)⟩,
 ⟨(some 41), none, .mov (.t 11)⟩,
 ⟨(some 42), none, .bin .eql (.t 41) (.c (.int .i64 0))⟩,
 ⟨none, none, .store 19 (.t 2) (.t 39)⟩,
 ⟨none, none, .store 2 (.t 3) (.t 40)⟩,
 ⟨(some 4), none, .mov (.t 42)⟩,
 ⟨(some 5), none, .mov (.c (.bool true))⟩] [((.t 6), (.t 2))] false)
.ret)))))))⟩
-- 32 topiary/sub.Range
def n_sub_Range : Nat := 32
def af_sub_Range : AF := ⟨71, [.tmp 4, .tmp 5],
(.seq
(.reg [⟨(some 2), none, .box (.t 0)⟩,
 ⟨(some 4), none, .mov (.c (.int .i64 0))⟩,
 ⟨(some 5), none, .mov (.c (.int .i64 0))⟩] [] false)
(.scope
 (.seq
 (.reg [⟨(some 11), none, .load true 19 (.t 2)⟩,
  ⟨(some 12), none, .call (.c (.fn 26 [] [])) [(.t 11)]⟩,
  ⟨(some 4), none, .mov (.c (.int .i64 0))⟩,
  ⟨(some 5), none, .mov (.t 12)⟩] [] false)
 (.seq
 (.reg [⟨(some 13), none, .load true 19 (.t 2)⟩,
  ⟨(some 14), none, .mkf 76 [(.t 13)] []⟩,
  ⟨(some 6), none, .mov (.t 14)⟩] [] false)
 (.seq
 .skip
 (.seq
 (.seq
 (.reg [⟨(some 15), none, .mov (.t 1)⟩,
  ⟨(some 16), none, .len (.t 15)⟩,
  ⟨(some 17), none, .mov (.c (.int .i64 0))⟩] [] false)
 (.block 0
  (.loop
   (.seq
   (.reg [⟨(some 18), none, .bin .lss (.t 17) (.t 16)⟩] [] false)
   (.seq
   (.cond (.t 18)
    .skip
    (.exit 0))
   (.seq
   (.block 1
    (.seq
    (.reg [⟨(some 19), none, .mov (.t 17)⟩,
     ⟨(some 20), none, .idx 1 (.t 15) (.t 17)⟩,
     ⟨(some 21), none, .load false 1 (.t 20)⟩,
     ⟨(some 7), none, .mov (.t 19)⟩,
     ⟨(some 8), none, .mov (.t 21)⟩] [] false)
    (.seq
    (.seq
    (.reg [⟨(some 22), none, .mov (.t 7)⟩,
     ⟨(some 23), none, .bin .eql (.t 22) (.c (.int .i64 0))⟩] [] false)
    (.cond (.t 23)
     (.seq
     (.seq
     (.reg [⟨(some 24), none, .mov (.t 8)⟩,
      ⟨(some 25), none, .bin .lss (.t 24) (.c (.int .i64 0))⟩,
      ⟨(some 26), none, .mov (.t 25)⟩,
      ⟨(some 27), (some (26, false)), .mov (.t 8)⟩,
      ⟨(some 28), (some (26, false)), .load true 19 (.t 2)⟩,
      ⟨(some 29), (some (26, false)), .call (.c (.fn 42 [] [])) [(.t 28)]⟩,
      ⟨(some 30), (some (26, false)), .bin .geq (.t 27) (.t 29)⟩,
      ⟨(some 31), none, .pick (.t 26) (.c (.bool true)) (.t 30)⟩] [] false)
     (.cond (.t 31)
      (.seq
      (.reg [⟨(some 4), none, .mov (.c (.int .i64 0))⟩,
       ⟨(some 5), none, .mov (.c (.int .i64 0))⟩] [] false)
      .ret)
      .skip))
     (.seq
     (.reg [⟨(some 32), none, .load true 19 (.t 2)⟩,
      ⟨(some 33), none, .mov (.t 8)⟩,
      ⟨(some 34), none, .call (.c (.fn 75 [] [])) [(.t 32), (.t 33)]⟩,
      ⟨(some 35), none, .load true 19 (.t 2)⟩,
      ⟨(some 36), none, .mov (.t 8)⟩,
      ⟨(some 37), none, .bin .add (.t 36) (.c (.int .i64 1))⟩,
      ⟨(some 38), none, .call (.c (.fn 75 [] [])) [(.t 35), (.t 37)]⟩,
      ⟨(some 4), none, .mov (.t 34)⟩,
      ⟨(some 5), none, .mov (.t 38)⟩] [] true)
     (.exit 1)))
     .skip))
    (.seq
    (.reg [⟨(some 39), none, .mov (.t 6)⟩,
     ⟨(some 40), none, .mov (.t 8)⟩,
     ⟨(some 41), none, .mov (.t 4)⟩,
     ⟨(some 42), none, .call (.t 39) [(.t 40), (.t 41)]⟩,
     ⟨(some 43), none, .mov (.t 6)⟩,
     ⟨(some 44), none, .mov (.t 8)⟩,
     ⟨(some 45), none, .mov (.t 5)⟩,
     ⟨(some 46), none, .call (.t 43) [(.t 44), (.t 45)]⟩,
     ⟨(some 9), none, .mov (.t 42)⟩,
     ⟨(some 10), none, .mov (.t 46)⟩] [] false)
    (.seq
    (.seq
    (.reg [⟨(some 47), none, .mov (.t 9)⟩,
     ⟨(some 48), none, .mov (.t 10)⟩,
     ⟨(some 49), none, .bin .eql (.t 47) (.t 48)⟩] [] false)
    (.cond (.t 49)
     (.seq
     (.reg [⟨(some 4), none, .mov (.c (.int .i64 0))⟩,
      ⟨(some 5), none, .mov (.c (.int .i64 0))⟩] [] false)
     .ret)
     .skip))
    (.seq
    (.reg [⟨(some 51), none, .load true 19 (.t 2)⟩,
     ⟨(some 52), none, .mov (.t 8)⟩,
     ⟨(some 53), none, .mov (.t 9)⟩,
     ⟨(some 54), none, .call (.c (.fn 73 [] [])) [(.t 51), (.t 52), (.t 53)]⟩,
     ⟨(some 50), none, .mov (.t 54)⟩,
     ⟨(some 55), none, .ext (.t 50) 0⟩,
     ⟨(some 56), none, .ext (.t 50) 1⟩,
     ⟨(some 4), none, .mov (.t 55)⟩] [] false)
    (.reg [⟨(some 58), none, .load true 19 (.t 2)⟩,
     ⟨(some 59), none, .mov (.t 8)⟩,
     ⟨(some 60), none, .mov (.t 10)⟩,
     ⟨(some 61), none, .bin .sub (.t 60) (.c (.int .i64 1))⟩,
     ⟨(some 62), none, .call (.c (.fn 73 [] [])) [(.t 58), (.t 59), (.t 61)]⟩,
     ⟨(some 57), none, .mov (.t 62)⟩,
     ⟨(some 63), none, .ext (.t 57) 0⟩,
     ⟨(some 64), none, .ext (.t 57) 1⟩,
     ⟨(some 5), none, .mov (.t 64)⟩] [] false)))))))
   (.reg [⟨(some 65), none, .bin .add (.t 17) (.c (.int .i64 1))⟩,
    ⟨(some 17), none, .mov (.t 65)⟩] [] false)))))))
 (.seq
 (.seq
 (.reg [⟨(some 66), none, .mov (.t 4)⟩,
  ⟨(some 67), none, .mov (.t 5)⟩,
  ⟨(some 68), none, .bin .eql (.t 66) (.t 67)⟩] [] false)
 (.cond (.t 68)
  (.seq
  (.reg [⟨(some 4), none, .mov (.c (.int .i64 0))⟩,
   ⟨(some 5), none, .mov (.c (.int .i64 0))⟩] [] false)
  .ret)
  .skip))
 (.seq
 (.reg [⟨(some 69), none, .mov (.t 4)⟩,
  ⟨(some 70), none, .mov (.t 5)⟩,
  ⟨(some 4), none, .mov (.t 69)⟩,
  ⟨(some 5), none, .mov (.t 70)⟩] [] false)
 .ret))))))))⟩
-- 34 topiary/sub.Nodes
def n_sub_Nodes : Nat := 34
def af_sub_Nodes : AF := ⟨25, [.tmp 4],
(.seq
(.reg [⟨(some 2), none, .box (.t 0)⟩,
 ⟨(some 4), none, .mov (.c (.sl true []))⟩] [] false)
(.seq
(.reg [⟨(some 5), none, .alc (.sl true [])⟩] [] false)
(.seq
(.reg [⟨(some 9), none, .mkf 105 [] [(.t 5), (.t 2)]⟩,
 ⟨(some 6), none, .mov (.t 9)⟩] [] false)
(.seq
(.seq
(.reg [⟨(some 10), none, .load true 19 (.t 2)⟩,
 ⟨(some 11), none, .mov (.t 1)⟩,
 ⟨(some 12), none, .call (.c (.fn 106 [] [])) [(.t 10), (.t 11)]⟩,
 ⟨(some 13), none, .len (.t 12)⟩,
 ⟨(some 14), none, .mov (.c (.int .i64 0))⟩] [] false)
(.block 0
 (.loop
  (.seq
  (.reg [⟨(some 15), none, .bin .lss (.t 14) (.t 13)⟩] [] false)
  (.seq
  (.cond (.t 15)
   .skip
   (.exit 0))
  (.seq
  (.block 1
   (.seq
   (.reg [⟨(some 16), none, .idx 1 (.t 12) (.t 14)⟩,
    ⟨(some 17), none, .load false 1 (.t 16)⟩,
    ⟨(some 8), none, .mov (.t 17)⟩] [] false)
   (.reg [⟨(some 18), none, .mov (.t 6)⟩,
    ⟨(some 19), none, .mov (.t 8)⟩,
    ⟨(some 20), none, .call (.t 18) [(.t 19)]⟩] [] false)))
  (.reg [⟨(some 21), none, .bin .add (.t 14) (.c (.int .i64 1))⟩,
   ⟨(some 14), none, .mov (.t 21)⟩] [] false)))))))
(.seq
(.reg [⟨(some 22), none, .load false 1 (.t 5)⟩,
 ⟨(some 23), none, .call (.c (.fn 107 [] [])) [(.t 22)]⟩] [] false)
(.seq
(.reg [⟨(some 24), none, .load false 1 (.t 5)⟩,
 ⟨(some 4), none, .mov (.t 24)⟩] [] false)
.ret))))))⟩
-- 35 topiary/topiaryref15.Children
def n_ref15_Children : Nat := 35
def af_ref15_Children : AF := ⟨28, [.tmp 4],
(.seq
(.reg [⟨(some 2), none, .box (.t 0)⟩,
 ⟨(some 4), none, .mov (.c (.sl true []))⟩] [] false)
(.seq
(.reg [⟨(some 5), none, .mov (.c (.sl true []))⟩] [] false)
(.seq
(.seq
(.reg [⟨(some 6), none, .mov (.c (.int .i64 0))⟩] [] false)
(.block 0
 (.loop
  (.seq
  (.seq
  (.reg [⟨(some 7), none, .mov (.t 6)⟩,
   ⟨(some 8), none, .fad 1 (.t 2)⟩,
   ⟨(some 9), none, .load false 1 (.t 8)⟩,
   ⟨(some 10), none, .len (.t 9)⟩,
   ⟨(some 11), none, .bin .lss (.t 7) (.t 10)⟩] [] false)
  (.cond (.t 11)
   .skip
   (.exit 0)))
  (.seq
  (.block 1
   (.seq
   (.reg [⟨(some 14), none, .mov (.t 1)⟩,
    ⟨(some 15), none, .bin .geq (.t 14) (.c (.int .i64 0))⟩,
    ⟨(some 16), none, .mov (.t 15)⟩,
    ⟨(some 17), (some (16, true)), .load true 2 (.t 2)⟩,
    ⟨(some 18), (some (16, true)), .mov (.t 6)⟩,
    ⟨(some 19), (some (16, true)), .call (.c (.fn 70 [] [])) [(.t 17), (.t 18)]⟩,
    ⟨(some 20), (some (16, true)), .mov (.t 1)⟩,
    ⟨(some 21), (some (16, true)), .bin .eql (.t 19) (.t 20)⟩,
    ⟨(some 22), none, .pick (.t 16) (.t 21) (.c (.bool false))⟩] [] false)
   (.cond (.t 22)
    (.reg [⟨(some 23), none, .mov (.t 5)⟩,
     ⟨(some 24), none, .mov (.t 6)⟩,
     ⟨(some 25), none, .bsl 3 1 [(.t 24)]⟩,
     ⟨(some 26), none, .app 3 1 8 (.t 23) (.t 25)⟩,
     ⟨(some 5), none, .mov (.t 26)⟩] [] false)
    .skip)))
  (.reg [⟨(some 12), none, .mov (.t 6)⟩,
   ⟨(some 13), none, .bin .add (.t 12) (.c (.int .i64 1))⟩,
   ⟨(some 6), none, .mov (.t 13)⟩] [] false))))))
(.seq
(.reg [⟨(some 27), none, .mov (.t 5)⟩,
 ⟨(some 4), none, .mov (.t 27)⟩] [] false)
.ret))))⟩
-- 36 (topiary/nav.Nav).Row
def n_nav_Nav_Row : Nat := 36
def af_nav_Nav_Row : AF := ⟨9, [.tmp 4],
(.seq
(.reg [⟨(some 2), none, .box (.t 0)⟩,
 ⟨(some 4), none, .mov (.c (.int .i64 0))⟩] [] false)
(.seq
(.reg [⟨(some 5), none, .fad 15 (.t 2)⟩,
 ⟨(some 6), none, .load true 4 (.t 5)⟩,
 ⟨(some 7), none, .mov (.t 1)⟩,
 ⟨(some 8), none, .call (.c (.fn 108 [] [])) [(.t 6), (.t 7)]⟩,
 ⟨(some 4), none, .mov (.t 8)⟩] [] false)
.ret))⟩
-- 38 topiary/topiaryref02.Same
def n_ref02_Same : Nat := 38
def af_ref02_Same : AF := ⟨26, [.tmp 4],
(.seq
(.reg [⟨(some 4), none, .mov (.c (.bool false))⟩] [] false)
(.seq
(.seq
(.reg [⟨(some 6), none, .mov (.t 0)⟩,
 ⟨(some 7), none, .len (.t 6)⟩,
 ⟨(some 8), none, .mov (.t 1)⟩,
 ⟨(some 9), none, .len (.t 8)⟩,
 ⟨(some 10), none, .bin .neq (.t 7) (.t 9)⟩] [] false)
(.cond (.t 10)
 (.seq
 (.reg [⟨(some 4), none, .mov (.c (.bool false))⟩] [] false)
 .ret)
 .skip))
(.seq
(.seq
(.reg [⟨(some 5), none, .mov (.c (.int .i64 0))⟩] [] false)
(.block 0
 (.loop
  (.seq
  (.seq
  (.reg [⟨(some 11), none, .mov (.t 5)⟩,
   ⟨(some 12), none, .mov (.t 0)⟩,
   ⟨(some 13), none, .len (.t 12)⟩,
   ⟨(some 14), none, .bin .lss (.t 11) (.t 13)⟩] [] false)
  (.cond (.t 14)
   .skip
   (.exit 0)))
  (.seq
  (.block 1
   (.seq
   (.reg [⟨(some 17), none, .mov (.t 0)⟩,
    ⟨(some 18), none, .mov (.t 5)⟩,
    ⟨(some 19), none, .idx 1 (.t 17) (.t 18)⟩,
    ⟨(some 20), none, .load false 1 (.t 19)⟩,
    ⟨(some 21), none, .mov (.t 1)⟩,
    ⟨(some 22), none, .mov (.t 5)⟩,
    ⟨(some 23), none, .idx 1 (.t 21) (.t 22)⟩,
    ⟨(some 24), none, .load false 1 (.t 23)⟩,
    ⟨(some 25), none, .bin .neq (.t 20) (.t 24)⟩] [] false)
   (.cond (.t 25)
    (.seq
    (.reg [⟨(some 4), none, .mov (.c (.bool false))⟩] [] false)
    .ret)
    .skip)))
  (.reg [⟨(some 15), none, .mov (.t 5)⟩,
   ⟨(some 16), none, .bin .add (.t 15) (.c (.int .i64 1))⟩,
   ⟨(some 5), none, .mov (.t 16)⟩] [] false))))))
(.seq
(.reg [⟨(some 4), none, .mov (.c (.bool true))⟩] [] false)
.ret))))⟩
-- 39 topiary/sub.Steps
def n_sub_Steps : Nat := 39
def af_sub_Steps : AF := ⟨23, [.tmp 4],
(.seq
(.reg [⟨(some 2), none, .box (.t 0)⟩,
 ⟨(some 4), none, .mov (.c (.sl true []))⟩] [] false)
(.seq
(.reg [⟨(some 5), none, .mov (.c (.sl true []))⟩] [] false)
(.seq
(.seq
(.reg [⟨(some 7), none, .mov (.t 1)⟩,
 ⟨(some 8), none, .len (.t 7)⟩,
 ⟨(some 9), none, .bin .add (.t 8) (.c (.int .i64 1))⟩,
 ⟨(some 10), none, .mov (.c (.int .i64 0))⟩] [] false)
(.block 0
 (.loop
  (.seq
  (.reg [⟨(some 11), none, .bin .lss (.t 10) (.t 9)⟩] [] false)
  (.seq
  (.cond (.t 11)
   .skip
   (.exit 0))
  (.seq
  (.block 1
   (.seq
   (.reg [⟨(some 12), none, .mov (.t 10)⟩,
    ⟨(some 6), none, .mov (.t 12)⟩] [] false)
   (.reg [⟨(some 13), none, .mov (.t 5)⟩,
    ⟨(some 14), none, .load true 19 (.t 2)⟩,
    ⟨(some 15), none, .mov (.t 1)⟩,
    ⟨(some 16), none, .mov (.t 6)⟩,
    ⟨(some 17), none, .slc 1 (.t 15) none (some (.t 16)) none⟩,
    ⟨(some 18), none, .call (.c (.fn 40 [] [])) [(.t 14), (.t 17)]⟩,
    ⟨(some 19), none, .bsl 3 1 [(.t 18)]⟩,
    ⟨(some 20), none, .app 3 1 8 (.t 13) (.t 19)⟩,
    ⟨(some 5), none, .mov (.t 20)⟩] [] false)))
  (.reg [⟨(some 21), none, .bin .add (.t 10) (.c (.int .i64 1))⟩,
   ⟨(some 10), none, .mov (.t 21)⟩] [] false)))))))
(.seq
(.reg [⟨(some 22), none, .mov (.t 5)⟩,
 ⟨(some 4), none, .mov (.t 22)⟩] [] false)
.ret))))⟩
-- 40 topiary/sub.Count
def n_sub_Count : Nat := 40
def af_sub_Count : AF := ⟨9, [.tmp 4],
(.seq
(.reg [⟨(some 2), none, .box (.t 0)⟩,
 ⟨(some 4), none, .mov (.c (.int .i64 0))⟩] [] false)
(.seq
(.reg [⟨(some 5), none, .load true 19 (.t 2)⟩,
 ⟨(some 6), none, .mov (.t 1)⟩,
 ⟨(some 7), none, .call (.c (.fn 106 [] [])) [(.t 5), (.t 6)]⟩,
 ⟨(some 8), none, .len (.t 7)⟩,
 ⟨(some 4), none, .mov (.t 8)⟩] [] false)
.ret))⟩
-- 42 (topiary/nav.Nav).Symbols
def n_nav_Nav_Symbols : Nat := 42
def af_nav_Nav_Symbols : AF := ⟨8, [.tmp 2],
(.seq
(.reg [⟨(some 1), none, .box (.t 0)⟩,
 ⟨(some 2), none, .mov (.c (.int .i64 0))⟩] [] false)
(.seq
(.reg [⟨(some 3), none, .fad 10 (.t 1)⟩,
 ⟨(some 4), none, .load false 1 (.t 3)⟩,
 ⟨(some 5), none, .len (.t 4)⟩,
 ⟨(some 6), none, .bin .sub (.t 5) (.c (.int .i64 1))⟩,
 ⟨(some 7), none, .mx (.t 6) [(.c (.int .i64 0))]⟩,
 ⟨(some 2), none, .mov (.t 7)⟩] [] false)
.ret))⟩
-- 46 topiary/wave.New
def n_wave_New : Nat := 46
def af_wave_New : AF := ⟨66, [.cell 4 true 3, .tmp 5],
(.seq
(.reg [⟨(some 3), none, .box (.t 1)⟩,
 ⟨(some 4), none, .alc (.agg [(.int .i64 0), (.int .i64 0), (.sl true [])])⟩,
 ⟨(some 5), none, .mov (.c (.int .i64 0))⟩] [] false)
(.seq
(.reg [⟨(some 13), none, .mkf 111 [] [(.t 3)]⟩,
 ⟨(some 6), none, .mov (.t 13)⟩] [] false)
(.seq
(.seq
(.reg [⟨(some 14), none, .load false 1 (.t 3)⟩,
 ⟨(some 15), none, .bin .lss (.t 14) (.c (.int .i64 1))⟩,
 ⟨(some 16), none, .mov (.t 15)⟩,
 ⟨(some 17), (some (16, false)), .load false 1 (.t 3)⟩,
 ⟨(some 18), (some (16, false)), .bin .gtr (.t 17) (.c (.int .i64 65536))⟩,
 ⟨(some 19), none, .pick (.t 16) (.c (.bool true)) (.t 18)⟩,
 ⟨(some 20), none, .mov (.t 19)⟩,
 ⟨(some 21), (some (20, false)), .mov (.t 0)⟩,
 ⟨(some 22), (some (20, false)), .mov (.t 6)⟩,
 ⟨(some 23), (some (20, false)), .call (.c (.fn 112 [] [])) [(.t 21), (.t 22)]⟩,
 ⟨(some 24), none, .pick (.t 20) (.c (.bool true)) (.t 23)⟩] [] false)
(.cond (.t 24)
 (.seq
 (.reg [⟨(some 25), none, .build [(.int .i64 0), (.int .i64 0), (.sl true [])] []⟩,
  ⟨none, none, .store 3 (.t 4) (.t 25)⟩,
  ⟨(some 5), none, .mov (.c (.int .i64 1))⟩] [] false)
 .ret)
 .skip))
(.seq
(.reg [⟨(some 26), none, .mov (.t 0)⟩,
 ⟨(some 27), none, .len (.t 26)⟩,
 ⟨(some 28), none, .load false 1 (.t 3)⟩,
 ⟨(some 29), none, .build [(.int .i64 0), (.int .i64 0), (.sl true [])] [(0, 1, (.t 27)), (1, 1, (.t 28))]⟩,
 ⟨(some 7), none, .alc (.agg [(.int .i64 0), (.int .i64 0), (.sl true [])])⟩,
 ⟨none, none, .store 3 (.t 7) (.t 29)⟩] [] false)
(.seq
(.reg [⟨(some 30), none, .mov (.t 0)⟩,
 ⟨(some 31), none, .call (.c (.fn 103 [] [])) [(.t 30)]⟩,
 ⟨(some 8), none, .mov (.t 31)⟩] [] false)
(.seq
(.seq
(.reg [⟨(some 32), none, .load false 1 (.t 3)⟩,
 ⟨(some 33), none, .call (.c (.fn 113 [] [])) [(.t 32)]⟩,
 ⟨(some 34), none, .bin .sub (.t 33) (.c (.int .i64 1))⟩,
 ⟨(some 9), none, .mov (.t 34)⟩] [] false)
(.block 0
 (.loop
  (.seq
  (.seq
  (.reg [⟨(some 35), none, .mov (.t 9)⟩,
   ⟨(some 36), none, .bin .geq (.t 35) (.c (.int .i64 0))⟩] [] false)
  (.cond (.t 36)
   .skip
   (.exit 0)))
  (.seq
  (.block 1
   (.seq
   (.reg [⟨(some 39), none, .call (.c (.fn 114 [] [])) []⟩,
    ⟨(some 10), none, .mov (.t 39)⟩] [] false)
   (.seq
   (.seq
   (.reg [⟨(some 40), none, .mov (.t 8)⟩,
    ⟨(some 41), none, .len (.t 40)⟩,
    ⟨(some 42), none, .mov (.c (.int .i64 0))⟩] [] false)
   (.block 2
    (.loop
     (.seq
     (.reg [⟨(some 43), none, .bin .lss (.t 42) (.t 41)⟩] [] false)
     (.seq
     (.cond (.t 43)
      .skip
      (.exit 2))
     (.seq
     (.block 3
      (.seq
      (.reg [⟨(some 44), none, .idx 1 (.t 40) (.t 42)⟩,
       ⟨(some 45), none, .load false 1 (.t 44)⟩,
       ⟨(some 12), none, .mov (.t 45)⟩] [] false)
      (.reg [⟨(some 46), none, .mov (.t 10)⟩,
       ⟨(some 47), none, .mov (.t 12)⟩,
       ⟨(some 48), none, .mov (.t 9)⟩,
       ⟨(some 49), none, .bin .shr (.t 47) (.t 48)⟩,
       ⟨(some 50), none, .bin .and (.t 49) (.c (.int .i64 1))⟩,
       ⟨(some 51), none, .bin .eql (.t 50) (.c (.int .i64 1))⟩,
       ⟨(some 52), none, .call (.c (.fn 115 [] [])) [(.t 46), (.t 51)]⟩] [] false)))
     (.reg [⟨(some 53), none, .bin .add (.t 42) (.c (.int .i64 1))⟩,
      ⟨(some 42), none, .mov (.t 53)⟩] [] false)))))))
   (.seq
   (.reg [⟨(some 54), none, .fad 2 (.t 7)⟩,
    ⟨(some 55), none, .load false 1 (.t 54)⟩,
    ⟨(some 56), none, .mov (.t 10)⟩,
    ⟨(some 57), none, .call (.c (.fn 117 [] [])) [(.t 56)]⟩,
    ⟨(some 58), none, .call (.c (.fn 116 [] [])) [(.t 57)]⟩,
    ⟨(some 59), none, .bsl 48 7 [(.t 58)]⟩,
    ⟨(some 60), none, .app 48 7 88 (.t 55) (.t 59)⟩,
    ⟨(some 61), none, .fad 2 (.t 7)⟩,
    ⟨none, none, .store 1 (.t 61) (.t 60)⟩] [] true)
   (.reg [⟨(some 62), none, .mov (.t 8)⟩,
    ⟨(some 63), none, .mov (.t 9)⟩,
    ⟨(some 64), none, .call (.c (.fn 118 [] [])) [(.t 62), (.t 63)]⟩,
    ⟨(some 8), none, .mov (.t 64)⟩] [] false)))))
  (.reg [⟨(some 37), none, .mov (.t 9)⟩,
   ⟨(some 38), none, .bin .sub (.t 37) (.c (.int .i64 1))⟩,
   ⟨(some 9), none, .mov (.t 38)⟩] [] false))))))
(.seq
(.reg [⟨(some 65), none, .load true 3 (.t 7)⟩,
 ⟨none, none, .store 3 (.t 4) (.t 65)⟩,
 ⟨(some 5), none, .mov (.c (.int .i64 0))⟩] [] false)
.ret)))))))⟩
-- 47 topiary/ints.Tight
def n_ints_Tight : Nat := 47
def af_ints_Tight : AF := ⟨23, [.cell 2 true 4, .tmp 3],
(.seq
(.reg [⟨(some 2), none, .alc (.agg [(.int .i64 0), (.int .i64 0), (.int .i64 0), (.sl true [])])⟩,
 ⟨(some 3), none, .mov (.c (.int .i64 0))⟩] [] false)
(.seq
(.reg [⟨(some 4), none, .mov (.c (.int .i64 0))⟩] [] false)
(.seq
(.seq
(.reg [⟨(some 7), none, .mov (.t 0)⟩,
 ⟨(some 8), none, .len (.t 7)⟩,
 ⟨(some 9), none, .mov (.c (.int .i64 0))⟩] [] false)
(.block 0
 (.loop
  (.seq
  (.reg [⟨(some 10), none, .bin .lss (.t 9) (.t 8)⟩] [] false)
  (.seq
  (.cond (.t 10)
   .skip
   (.exit 0))
  (.seq
  (.block 1
   (.seq
   (.reg [⟨(some 11), none, .idx 1 (.t 7) (.t 9)⟩,
    ⟨(some 12), none, .load false 1 (.t 11)⟩,
    ⟨(some 6), none, .mov (.t 12)⟩] [] false)
   (.reg [⟨(some 13), none, .mov (.t 4)⟩,
    ⟨(some 14), none, .mov (.t 6)⟩,
    ⟨(some 15), none, .mx (.t 13) [(.t 14)]⟩,
    ⟨(some 4), none, .mov (.t 15)⟩] [] false)))
  (.reg [⟨(some 16), none, .bin .add (.t 9) (.c (.int .i64 1))⟩,
   ⟨(some 9), none, .mov (.t 16)⟩] [] false)))))))
(.seq
(.reg [⟨(some 17), none, .mov (.t 0)⟩,
 ⟨(some 18), none, .mov (.t 4)⟩,
 ⟨(some 19), none, .call (.c (.fn 120 [] [])) [(.t 18)]⟩,
 ⟨(some 20), none, .call (.c (.fn 119 [] [])) [(.t 17), (.t 19)]⟩,
 ⟨(some 21), none, .ext (.t 20) 0⟩,
 ⟨(some 22), none, .ext (.t 20) 1⟩,
 ⟨none, none, .store 4 (.t 2) (.t 21)⟩,
 ⟨(some 3), none, .mov (.t 22)⟩] [] false)
.ret))))⟩
-- 49 topiary/bits.Make
def n_bits_Make : Nat := 49
def af_bits_Make : AF := ⟨19, [.cell 2 true 2],
(.seq
(.reg [⟨(some 2), none, .alc (.agg [(.int .i64 0), (.sl true [])])⟩] [] false)
(.seq
(.reg [⟨(some 6), none, .call (.c (.fn 114 [] [])) []⟩,
 ⟨(some 3), none, .mov (.t 6)⟩] [] false)
(.seq
(.seq
(.reg [⟨(some 7), none, .mov (.t 0)⟩,
 ⟨(some 8), none, .len (.t 7)⟩,
 ⟨(some 9), none, .mov (.c (.int .i64 0))⟩] [] false)
(.block 0
 (.loop
  (.seq
  (.reg [⟨(some 10), none, .bin .lss (.t 9) (.t 8)⟩] [] false)
  (.seq
  (.cond (.t 10)
   .skip
   (.exit 0))
  (.seq
  (.block 1
   (.seq
   (.reg [⟨(some 11), none, .idx 1 (.t 7) (.t 9)⟩,
    ⟨(some 12), none, .load false 1 (.t 11)⟩,
    ⟨(some 5), none, .mov (.t 12)⟩] [] false)
   (.reg [⟨(some 13), none, .mov (.t 3)⟩,
    ⟨(some 14), none, .mov (.t 5)⟩,
    ⟨(some 15), none, .call (.c (.fn 115 [] [])) [(.t 13), (.t 14)]⟩] [] false)))
  (.reg [⟨(some 16), none, .bin .add (.t 9) (.c (.int .i64 1))⟩,
   ⟨(some 9), none, .mov (.t 16)⟩] [] false)))))))
(.seq
(.reg [⟨(some 17), none, .mov (.t 3)⟩,
 ⟨(some 18), none, .call (.c (.fn 117 [] [])) [(.t 17)]⟩,
 ⟨none, none, .store 2 (.t 2) (.t 18)⟩] [] false)
.ret))))⟩
-- 58 (topiary/nav.Nav).Symbol
def n_nav_Nav_Symbol : Nat := 58
def af_nav_Nav_Symbol : AF := ⟨16, [.tmp 4],
(.seq
(.reg [⟨(some 2), none, .box (.t 0)⟩,
 ⟨(some 4), none, .mov (.c (.int .i64 0))⟩] [] false)
(.seq
(.reg [⟨(some 6), none, .fad 0 (.t 2)⟩,
 ⟨(some 7), none, .load true 3 (.t 6)⟩,
 ⟨(some 8), none, .load true 19 (.t 2)⟩,
 ⟨(some 9), none, .mov (.t 1)⟩,
 ⟨(some 10), none, .call (.c (.fn 36 [] [])) [(.t 8), (.t 9)]⟩,
 ⟨(some 11), none, .call (.c (.fn 127 [] [])) [(.t 7), (.t 10)]⟩,
 ⟨(some 5), none, .mov (.t 11)⟩] [] true)
(.seq
(.seq
(.reg [⟨(some 12), none, .mov (.t 5)⟩,
 ⟨(some 13), none, .bin .lss (.t 12) (.c (.int .i64 0))⟩] [] false)
(.cond (.t 13)
 (.seq
 (.reg [⟨(some 4), none, .mov (.c (.int .i64 (-1)))⟩] [] false)
 .ret)
 .skip))
(.seq
(.reg [⟨(some 14), none, .mov (.t 5)⟩,
 ⟨(some 15), none, .bin .quo (.t 14) (.c (.int .i64 2))⟩,
 ⟨(some 4), none, .mov (.t 15)⟩] [] false)
.ret))))⟩
-- 67 topiary/topiaryref15.Symbol
def n_ref15_Symbol : Nat := 67
def af_ref15_Symbol : AF := ⟨53, [.tmp 4],
(.seq
(.reg [⟨(some 2), none, .box (.t 0)⟩,
 ⟨(some 4), none, .mov (.c (.int .i64 0))⟩] [] false)
(.seq
(.seq
(.reg [⟨(some 6), none, .mov (.t 1)⟩,
 ⟨(some 7), none, .bin .lss (.t 6) (.c (.int .i64 0))⟩,
 ⟨(some 8), none, .mov (.t 7)⟩,
 ⟨(some 9), (some (8, false)), .mov (.t 1)⟩,
 ⟨(some 10), (some (8, false)), .fad 1 (.t 2)⟩,
 ⟨(some 11), (some (8, false)), .load false 1 (.t 10)⟩,
 ⟨(some 12), (some (8, false)), .len (.t 11)⟩,
 ⟨(some 13), (some (8, false)), .bin .geq (.t 9) (.t 12)⟩,
 ⟨(some 14), none, .pick (.t 8) (.c (.bool true)) (.t 13)⟩] [] false)
(.cond (.t 14)
 (.seq
 (.reg [⟨(some 4), none, .mov (.c (.int .i64 (-1)))⟩] [] false)
 .ret)
 .skip))
(.seq
(.reg [⟨(some 15), none, .fad 1 (.t 2)⟩,
 ⟨(some 16), none, .load false 1 (.t 15)⟩,
 ⟨(some 17), none, .mov (.t 1)⟩,
 ⟨(some 18), none, .idx 4 (.t 16) (.t 17)⟩,
 ⟨(some 19), none, .load true 4 (.t 18)⟩,
 ⟨(some 5), none, .alc (.agg [(.int .i64 0), (.int .i64 0), (.int .i64 0), (.str ⟨#[]⟩)])⟩,
 ⟨none, none, .store 4 (.t 5) (.t 19)⟩] [] false)
(.seq
(.seq
(.reg [⟨(some 20), none, .fad 0 (.t 5)⟩,
 ⟨(some 21), none, .load false 1 (.t 20)⟩,
 ⟨(some 22), none, .bin .neq (.t 21) (.c (.int .i64 1))⟩,
 ⟨(some 23), none, .mov (.t 22)⟩,
 ⟨(some 24), (some (23, true)), .fad 0 (.t 5)⟩,
 ⟨(some 25), (some (23, true)), .load false 1 (.t 24)⟩,
 ⟨(some 26), (some (23, true)), .bin .neq (.t 25) (.c (.int .i64 2))⟩,
 ⟨(some 27), none, .pick (.t 23) (.t 26) (.c (.bool false))⟩] [] false)
(.cond (.t 27)
 (.seq
 (.reg [⟨(some 28), none, .fad 0 (.t 2)⟩,
  ⟨(some 29), none, .load false 1 (.t 28)⟩,
  ⟨(some 30), none, .len (.t 29)⟩,
  ⟨(some 31), none, .bin .mul (.c (.int .i64 2)) (.t 30)⟩,
  ⟨(some 4), none, .mov (.t 31)⟩] [] false)
 .ret)
 .skip))
(.seq
(.seq
(.reg [⟨(some 32), none, .fad 1 (.t 5)⟩,
 ⟨(some 33), none, .load false 1 (.t 32)⟩,
 ⟨(some 34), none, .bin .lss (.t 33) (.c (.int .i64 0))⟩,
 ⟨(some 35), none, .mov (.t 34)⟩,
 ⟨(some 36), (some (35, false)), .fad 1 (.t 5)⟩,
 ⟨(some 37), (some (35, false)), .load false 1 (.t 36)⟩,
 ⟨(some 38), (some (35, false)), .fad 0 (.t 2)⟩,
 ⟨(some 39), (some (35, false)), .load false 1 (.t 38)⟩,
 ⟨(some 40), (some (35, false)), .len (.t 39)⟩,
 ⟨(some 41), (some (35, false)), .bin .geq (.t 37) (.t 40)⟩,
 ⟨(some 42), none, .pick (.t 35) (.c (.bool true)) (.t 41)⟩] [] false)
(.cond (.t 42)
 (.seq
 (.reg [⟨(some 4), none, .mov (.c (.int .i64 (-1)))⟩] [] false)
 .ret)
 .skip))
(.seq
(.seq
(.reg [⟨(some 43), none, .fad 0 (.t 5)⟩,
 ⟨(some 44), none, .load false 1 (.t 43)⟩,
 ⟨(some 45), none, .bin .eql (.t 44) (.c (.int .i64 2))⟩] [] false)
(.cond (.t 45)
 (.seq
 (.reg [⟨(some 46), none, .fad 1 (.t 5)⟩,
  ⟨(some 47), none, .load false 1 (.t 46)⟩,
  ⟨(some 48), none, .bin .mul (.c (.int .i64 2)) (.t 47)⟩,
  ⟨(some 49), none, .bin .add (.t 48) (.c (.int .i64 1))⟩,
  ⟨(some 4), none, .mov (.t 49)⟩] [] false)
 .ret)
 .skip))
(.seq
(.reg [⟨(some 50), none, .fad 1 (.t 5)⟩,
 ⟨(some 51), none, .load false 1 (.t 50)⟩,
 ⟨(some 52), none, .bin .mul (.c (.int .i64 2)) (.t 51)⟩,
 ⟨(some 4), none, .mov (.t 52)⟩] [] false)
.ret)))))))⟩
-- 68 topiary/topiaryref15.Up
def n_ref15_Up : Nat := 68
def af_ref15_Up : AF := ⟨22, [.tmp 4],
(.seq
(.reg [⟨(some 2), none, .box (.t 0)⟩,
 ⟨(some 4), none, .mov (.c (.sl true []))⟩] [] false)
(.seq
(.reg [⟨(some 5), none, .mov (.c (.sl true []))⟩] [] false)
(.seq
(.seq
(.reg [⟨(some 7), none, .load true 2 (.t 2)⟩,
 ⟨(some 8), none, .mov (.t 1)⟩,
 ⟨(some 9), none, .call (.c (.fn 70 [] [])) [(.t 7), (.t 8)]⟩,
 ⟨(some 6), none, .mov (.t 9)⟩] [] false)
(.block 0
 (.loop
  (.seq
  (.seq
  (.reg [⟨(some 10), none, .mov (.t 6)⟩,
   ⟨(some 11), none, .bin .geq (.t 10) (.c (.int .i64 0))⟩] [] false)
  (.cond (.t 11)
   .skip
   (.exit 0)))
  (.seq
  (.block 1
   (.reg [⟨(some 15), none, .mov (.t 5)⟩,
    ⟨(some 16), none, .load true 2 (.t 2)⟩,
    ⟨(some 17), none, .mov (.t 6)⟩,
    ⟨(some 18), none, .call (.c (.fn 67 [] [])) [(.t 16), (.t 17)]⟩,
    ⟨(some 19), none, .bsl 3 1 [(.t 18)]⟩,
    ⟨(some 20), none, .app 3 1 8 (.t 15) (.t 19)⟩,
    ⟨(some 5), none, .mov (.t 20)⟩] [] false))
  (.reg [⟨(some 12), none, .load true 2 (.t 2)⟩,
   ⟨(some 13), none, .mov (.t 6)⟩,
   ⟨(some 14), none, .call (.c (.fn 70 [] [])) [(.t 12), (.t 13)]⟩,
   ⟨(some 6), none, .mov (.t 14)⟩] [] false))))))
(.seq
(.reg [⟨(some 21), none, .mov (.t 5)⟩,
 ⟨(some 4), none, .mov (.t 21)⟩] [] false)
.ret))))⟩
-- 70 topiary/topiaryref15.Parent
def n_ref15_Parent : Nat := 70
def af_ref15_Parent : AF := ⟨39, [.tmp 4],
(.seq
(.reg [⟨(some 2), none, .box (.t 0)⟩,
 ⟨(some 4), none, .mov (.c (.int .i64 0))⟩] [] false)
(.seq
(.seq
(.reg [⟨(some 5), none, .mov (.t 1)⟩,
 ⟨(some 6), none, .bin .lss (.t 5) (.c (.int .i64 0))⟩,
 ⟨(some 7), none, .mov (.t 6)⟩,
 ⟨(some 8), (some (7, false)), .mov (.t 1)⟩,
 ⟨(some 9), (some (7, false)), .fad 1 (.t 2)⟩,
 ⟨(some 10), (some (7, false)), .load false 1 (.t 9)⟩,
 ⟨(some 11), (some (7, false)), .len (.t 10)⟩,
 ⟨(some 12), (some (7, false)), .bin .geq (.t 8) (.t 11)⟩,
 ⟨(some 13), none, .pick (.t 7) (.c (.bool true)) (.t 12)⟩,
 ⟨(some 14), none, .mov (.t 13)⟩,
 ⟨(some 15), (some (14, false)), .fad 1 (.t 2)⟩,
 ⟨(some 16), (some (14, false)), .load false 1 (.t 15)⟩,
 ⟨(some 17), (some (14, false)), .mov (.t 1)⟩,
 ⟨(some 18), (some (14, false)), .idx 4 (.t 16) (.t 17)⟩,
 ⟨(some 19), (some (14, false)), .fad 2 (.t 18)⟩,
 ⟨(some 20), (some (14, false)), .load false 1 (.t 19)⟩,
 ⟨(some 21), (some (14, false)), .bin .lss (.t 20) (.c (.int .i64 0))⟩,
 ⟨(some 22), none, .pick (.t 14) (.c (.bool true)) (.t 21)⟩,
 ⟨(some 23), none, .mov (.t 22)⟩,
 ⟨(some 24), (some (23, false)), .fad 1 (.t 2)⟩,
 ⟨(some 25), (some (23, false)), .load false 1 (.t 24)⟩,
 ⟨(some 26), (some (23, false)), .mov (.t 1)⟩,
 ⟨(some 27), (some (23, false)), .idx 4 (.t 25) (.t 26)⟩,
 ⟨(some 28), (some (23, false)), .fad 2 (.t 27)⟩,
 ⟨(some 29), (some (23, false)), .load false 1 (.t 28)⟩,
 ⟨(some 30), (some (23, false)), .mov (.t 1)⟩,
 ⟨(some 31), (some (23, false)), .bin .geq (.t 29) (.t 30)⟩,
 ⟨(some 32), none, .pick (.t 23) (.c (.bool true)) (.t 31)⟩] [] false)
(.cond (.t 32)
 (.seq
 (.reg [⟨(some 4), none, .mov (.c (.int .i64 (-1)))⟩] [] false)
 .ret)
 .skip))
(.seq
(.reg [⟨(some 33), none, .fad 1 (.t 2)⟩,
 ⟨(some 34), none, .load false 1 (.t 33)⟩,
 ⟨(some 35), none, .mov (.t 1)⟩,
 ⟨(some 36), none, .idx 4 (.t 34) (.t 35)⟩,
 ⟨(some 37), none, .fad 2 (.t 36)⟩,
 ⟨(some 38), none, .load false 1 (.t 37)⟩,
 ⟨(some 4), none, .mov (.t 38)⟩] [] false)
.ret)))⟩
-- 72 (topiary/nav.Nav).Leaf
def n_nav_Nav_Leaf : Nat := 72
def af_nav_Nav_Leaf : AF := ⟨19, [.tmp 4],
(.seq
(.reg [⟨(some 2), none, .box (.t 0)⟩,
 ⟨(some 4), none, .mov (.c (.bool false))⟩] [] false)
(.seq
(.reg [⟨(some 6), none, .fad 0 (.t 2)⟩,
 ⟨(some 7), none, .load true 3 (.t 6)⟩,
 ⟨(some 8), none, .load true 19 (.t 2)⟩,
 ⟨(some 9), none, .mov (.t 1)⟩,
 ⟨(some 10), none, .call (.c (.fn 36 [] [])) [(.t 8), (.t 9)]⟩,
 ⟨(some 11), none, .call (.c (.fn 127 [] [])) [(.t 7), (.t 10)]⟩,
 ⟨(some 5), none, .mov (.t 11)⟩] [] true)
(.seq
(.reg [⟨(some 12), none, .mov (.t 5)⟩,
 ⟨(some 13), none, .bin .geq (.t 12) (.c (.int .i64 0))⟩,
 ⟨(some 14), none, .mov (.t 13)⟩,
 ⟨(some 15), (some (14, true)), .mov (.t 5)⟩,
 ⟨(some 16), (some (14, true)), .bin .rem (.t 15) (.c (.int .i64 2))⟩,
 ⟨(some 17), (some (14, true)), .bin .eql (.t 16) (.c (.int .i64 1))⟩,
 ⟨(some 18), none, .pick (.t 14) (.t 17) (.c (.bool false))⟩,
 ⟨(some 4), none, .mov (.t 18)⟩] [] false)
.ret)))⟩
-- 73 (topiary/nav.Nav).Group
def n_nav_Nav_Group : Nat := 73
def af_nav_Nav_Group : AF := ⟨45, [.tmp 6, .tmp 7],
(.seq
(.reg [⟨(some 3), none, .box (.t 0)⟩,
 ⟨(some 6), none, .mov (.c (.int .i64 0))⟩,
 ⟨(some 7), none, .mov (.c (.int .i64 0))⟩] [] false)
(.seq
(.seq
(.reg [⟨(some 9), none, .mov (.t 2)⟩,
 ⟨(some 10), none, .bin .lss (.t 9) (.c (.int .i64 0))⟩,
 ⟨(some 11), none, .mov (.t 10)⟩,
 ⟨(some 12), (some (11, false)), .mov (.t 2)⟩,
 ⟨(some 13), (some (11, false)), .load true 19 (.t 3)⟩,
 ⟨(some 14), (some (11, false)), .mov (.t 1)⟩,
 ⟨(some 15), (some (11, false)), .load true 19 (.t 3)⟩,
 ⟨(some 16), (some (11, false)), .call (.c (.fn 26 [] [])) [(.t 15)]⟩,
 ⟨(some 17), (some (11, false)), .call (.c (.fn 76 [] [])) [(.t 13), (.t 14), (.t 16)]⟩,
 ⟨(some 18), (some (11, false)), .bin .geq (.t 12) (.t 17)⟩,
 ⟨(some 19), none, .pick (.t 11) (.c (.bool true)) (.t 18)⟩] [] true)
(.cond (.t 19)
 (.seq
 (.reg [⟨(some 6), none, .mov (.c (.int .i64 0))⟩,
  ⟨(some 7), none, .mov (.c (.int .i64 0))⟩] [] false)
 .ret)
 .skip))
(.seq
(.reg [⟨(some 20), none, .fad 3 (.t 3)⟩,
 ⟨(some 21), none, .load true 7 (.t 20)⟩,
 ⟨(some 22), none, .load true 19 (.t 3)⟩,
 ⟨(some 23), none, .mov (.t 1)⟩,
 ⟨(some 24), none, .call (.c (.fn 75 [] [])) [(.t 22), (.t 23)]⟩,
 ⟨(some 25), none, .call (.c (.fn 136 [] [])) [(.t 21), (.t 24)]⟩,
 ⟨(some 26), none, .mov (.t 2)⟩,
 ⟨(some 27), none, .bin .add (.t 25) (.t 26)⟩,
 ⟨(some 8), none, .mov (.t 27)⟩] [] true)
(.seq
(.reg [⟨(some 28), none, .load true 19 (.t 3)⟩,
 ⟨(some 29), none, .mov (.t 1)⟩,
 ⟨(some 30), none, .call (.c (.fn 75 [] [])) [(.t 28), (.t 29)]⟩,
 ⟨(some 6), none, .mov (.t 30)⟩] [] false)
(.seq
(.seq
(.reg [⟨(some 31), none, .mov (.t 2)⟩,
 ⟨(some 32), none, .bin .gtr (.t 31) (.c (.int .i64 0))⟩] [] false)
(.cond (.t 32)
 (.reg [⟨(some 33), none, .fad 3 (.t 3)⟩,
  ⟨(some 34), none, .load true 7 (.t 33)⟩,
  ⟨(some 35), none, .mov (.t 8)⟩,
  ⟨(some 36), none, .bin .sub (.t 35) (.c (.int .i64 1))⟩,
  ⟨(some 37), none, .call (.c (.fn 137 [] [])) [(.t 34), (.t 36)]⟩,
  ⟨(some 38), none, .bin .add (.t 37) (.c (.int .i64 1))⟩,
  ⟨(some 6), none, .mov (.t 38)⟩] [] false)
 .skip))
(.seq
(.reg [⟨(some 39), none, .mov (.t 6)⟩,
 ⟨(some 40), none, .fad 3 (.t 3)⟩,
 ⟨(some 41), none, .load true 7 (.t 40)⟩,
 ⟨(some 42), none, .mov (.t 8)⟩,
 ⟨(some 43), none, .call (.c (.fn 137 [] [])) [(.t 41), (.t 42)]⟩,
 ⟨(some 44), none, .bin .add (.t 43) (.c (.int .i64 1))⟩,
 ⟨(some 6), none, .mov (.t 39)⟩,
 ⟨(some 7), none, .mov (.t 44)⟩] [] false)
.ret))))))⟩
-- 74 (topiary/nav.Nav).Among
def n_nav_Nav_Among : Nat := 74
def af_nav_Nav_Among : AF := ⟨24, [.tmp 8],
(.seq
(.reg [⟨(some 4), none, .box (.t 0)⟩,
 ⟨(some 6), none, .box (.t 2)⟩,
 ⟨(some 7), none, .box (.t 3)⟩,
 ⟨(some 8), none, .mov (.c (.sl true []))⟩] [] false)
(.seq
(.seq
(.reg [⟨(some 10), none, .load true 19 (.t 4)⟩,
 ⟨(some 11), none, .mov (.t 1)⟩,
 ⟨(some 12), none, .call (.c (.fn 138 [] [])) [(.t 10), (.t 11)]⟩,
 ⟨(some 13), none, .un .not (.t 12)⟩] [] false)
(.cond (.t 13)
 (.seq
 (.reg [⟨(some 8), none, .mov (.c (.sl true []))⟩] [] false)
 .ret)
 .skip))
(.seq
(.reg [⟨(some 14), none, .mkf 139 [] [(.t 4), (.t 6), (.t 7)]⟩,
 ⟨(some 9), none, .mov (.t 14)⟩] [] false)
(.seq
(.reg [⟨(some 15), none, .mov (.t 9)⟩,
 ⟨(some 16), none, .mov (.t 1)⟩,
 ⟨(some 17), none, .call (.c (.fn 144 [] [])) [(.t 16), (.c (.bool false))]⟩,
 ⟨(some 18), none, .call (.t 15) [(.t 17)]⟩,
 ⟨(some 19), none, .mov (.t 9)⟩,
 ⟨(some 20), none, .mov (.t 1)⟩,
 ⟨(some 21), none, .call (.c (.fn 144 [] [])) [(.t 20), (.c (.bool true))]⟩,
 ⟨(some 22), none, .call (.t 19) [(.t 21)]⟩,
 ⟨(some 23), none, .call (.c (.fn 143 [] [])) [(.t 18), (.t 22)]⟩,
 ⟨(some 8), none, .mov (.t 23)⟩] [] false)
.ret))))⟩
-- 75 (topiary/nav.Nav).Begin
def n_nav_Nav_Begin : Nat := 75
def af_nav_Nav_Begin : AF := ⟨20, [.tmp 4],
(.seq
(.reg [⟨(some 2), none, .box (.t 0)⟩,
 ⟨(some 4), none, .mov (.c (.int .i64 0))⟩] [] false)
(.seq
(.seq
(.reg [⟨(some 5), none, .fad 10 (.t 2)⟩,
 ⟨(some 6), none, .load false 1 (.t 5)⟩,
 ⟨(some 7), none, .len (.t 6)⟩,
 ⟨(some 8), none, .bin .eql (.t 7) (.c (.int .i64 0))⟩] [] false)
(.cond (.t 8)
 (.seq
 (.reg [⟨(some 4), none, .mov (.c (.int .i64 0))⟩] [] false)
 .ret)
 .skip))
(.seq
(.reg [⟨(some 9), none, .fad 10 (.t 2)⟩,
 ⟨(some 10), none, .load false 1 (.t 9)⟩,
 ⟨(some 11), none, .mov (.t 1)⟩,
 ⟨(some 12), none, .mx (.t 11) [(.c (.int .i64 0))]⟩,
 ⟨(some 13), none, .fad 10 (.t 2)⟩,
 ⟨(some 14), none, .load false 1 (.t 13)⟩,
 ⟨(some 15), none, .len (.t 14)⟩,
 ⟨(some 16), none, .bin .sub (.t 15) (.c (.int .i64 1))⟩,
 ⟨(some 17), none, .mn (.t 12) [(.t 16)]⟩,
 ⟨(some 18), none, .idx 1 (.t 10) (.t 17)⟩,
 ⟨(some 19), none, .load false 1 (.t 18)⟩,
 ⟨(some 4), none, .mov (.t 19)⟩] [] false)
.ret)))⟩
-- 76 (topiary/nav.Nav).Inner
def n_nav_Nav_Inner : Nat := 76
def af_nav_Nav_Inner : AF := ⟨17, [.tmp 6],
(.seq
(.reg [⟨(some 3), none, .box (.t 0)⟩,
 ⟨(some 6), none, .mov (.c (.int .i64 0))⟩] [] false)
(.seq
(.seq
(.reg [⟨(some 7), none, .load true 19 (.t 3)⟩,
 ⟨(some 8), none, .mov (.t 1)⟩,
 ⟨(some 9), none, .call (.c (.fn 138 [] [])) [(.t 7), (.t 8)]⟩,
 ⟨(some 10), none, .un .not (.t 9)⟩] [] false)
(.cond (.t 10)
 (.seq
 (.reg [⟨(some 6), none, .mov (.c (.int .i64 0))⟩] [] false)
 .ret)
 .skip))
(.seq
(.reg [⟨(some 11), none, .fad 0 (.t 3)⟩,
 ⟨(some 12), none, .load true 3 (.t 11)⟩,
 ⟨(some 13), none, .mov (.t 1)⟩,
 ⟨(some 14), none, .call (.c (.fn 144 [] [])) [(.t 13), (.c (.bool false))]⟩,
 ⟨(some 15), none, .mov (.t 2)⟩,
 ⟨(some 16), none, .call (.c (.fn 140 [] [])) [(.t 12), (.t 14), (.t 15)]⟩,
 ⟨(some 6), none, .mov (.t 16)⟩] [] true)
.ret)))⟩
-- 77 topiary/sub.Below
def n_sub_Below : Nat := 77
def af_sub_Below : AF := ⟨52, [.tmp 6],
(.seq
(.reg [⟨(some 3), none, .box (.t 0)⟩,
 ⟨(some 6), none, .mov (.c (.sl true []))⟩] [] false)
(.seq
(.reg [⟨(some 7), none, .mov (.c (.sl true []))⟩] [] false)
(.seq
(.seq
(.reg [⟨(some 13), none, .mov (.t 1)⟩,
 ⟨(some 14), none, .len (.t 13)⟩,
 ⟨(some 15), none, .mov (.c (.int .i64 0))⟩] [] false)
(.block 0
 (.loop
  (.seq
  (.reg [⟨(some 16), none, .bin .lss (.t 15) (.t 14)⟩] [] false)
  (.seq
  (.cond (.t 16)
   .skip
   (.exit 0))
  (.seq
  (.block 1
   (.seq
   (.reg [⟨(some 17), none, .idx 1 (.t 13) (.t 15)⟩,
    ⟨(some 18), none, .load false 1 (.t 17)⟩,
    ⟨(some 9), none, .mov (.t 18)⟩] [] false)
   (.seq
   (.reg [⟨(some 19), none, .load true 19 (.t 3)⟩,
    ⟨(some 20), none, .mov (.t 9)⟩,
    ⟨(some 21), none, .call (.c (.fn 79 [] [])) [(.t 19), (.t 20)]⟩,
    ⟨(some 10), none, .mov (.t 21)⟩] [] false)
   (.seq
   (.seq
   (.reg [⟨(some 22), none, .mov (.t 10)⟩,
    ⟨(some 23), none, .bin .lss (.t 22) (.c (.int .i64 0))⟩,
    ⟨(some 24), none, .mov (.t 23)⟩,
    ⟨(some 25), (some (24, false)), .load true 19 (.t 3)⟩,
    ⟨(some 26), (some (24, false)), .mov (.t 10)⟩,
    ⟨(some 27), (some (24, false)), .call (.c (.fn 72 [] [])) [(.t 25), (.t 26)]⟩,
    ⟨(some 28), none, .pick (.t 24) (.c (.bool true)) (.t 27)⟩] [] false)
   (.cond (.t 28)
    (.exit 1)
    .skip))
   (.seq
   (.reg [⟨(some 30), none, .load true 19 (.t 3)⟩,
    ⟨(some 31), none, .load true 19 (.t 3)⟩,
    ⟨(some 32), none, .mov (.t 10)⟩,
    ⟨(some 33), none, .call (.c (.fn 58 [] [])) [(.t 31), (.t 32)]⟩,
    ⟨(some 34), none, .load true 19 (.t 3)⟩,
    ⟨(some 35), none, .load true 19 (.t 3)⟩,
    ⟨(some 36), none, .mov (.t 10)⟩,
    ⟨(some 37), none, .call (.c (.fn 58 [] [])) [(.t 35), (.t 36)]⟩,
    ⟨(some 38), none, .mov (.t 9)⟩,
    ⟨(some 39), none, .call (.c (.fn 76 [] [])) [(.t 34), (.t 37), (.t 38)]⟩,
    ⟨(some 40), none, .call (.c (.fn 73 [] [])) [(.t 30), (.t 33), (.t 39)]⟩,
    ⟨(some 29), none, .mov (.t 40)⟩,
    ⟨(some 41), none, .ext (.t 29) 0⟩,
    ⟨(some 42), none, .ext (.t 29) 1⟩,
    ⟨(some 11), none, .mov (.t 41)⟩,
    ⟨(some 12), none, .mov (.t 42)⟩] [] true)
   (.reg [⟨(some 43), none, .mov (.t 7)⟩,
    ⟨(some 44), none, .load true 19 (.t 3)⟩,
    ⟨(some 45), none, .mov (.t 2)⟩,
    ⟨(some 46), none, .mov (.t 11)⟩,
    ⟨(some 47), none, .mov (.t 12)⟩,
    ⟨(some 48), none, .call (.c (.fn 74 [] [])) [(.t 44), (.t 45), (.t 46), (.t 47)]⟩,
    ⟨(some 49), none, .call (.c (.fn 143 [] [])) [(.t 43), (.t 48)]⟩,
    ⟨(some 7), none, .mov (.t 49)⟩] [] false))))))
  (.reg [⟨(some 50), none, .bin .add (.t 15) (.c (.int .i64 1))⟩,
   ⟨(some 15), none, .mov (.t 50)⟩] [] false)))))))
(.seq
(.reg [⟨(some 51), none, .mov (.t 7)⟩,
 ⟨(some 6), none, .mov (.t 51)⟩] [] false)
.ret))))⟩
-- 79 (topiary/nav.Nav).Node
def n_nav_Nav_Node : Nat := 79
def af_nav_Nav_Node : AF := ⟨9, [.tmp 4],
(.seq
(.reg [⟨(some 2), none, .box (.t 0)⟩,
 ⟨(some 4), none, .mov (.c (.int .i64 0))⟩] [] false)
(.seq
(.reg [⟨(some 5), none, .fad 11 (.t 2)⟩,
 ⟨(some 6), none, .load true 4 (.t 5)⟩,
 ⟨(some 7), none, .mov (.t 1)⟩,
 ⟨(some 8), none, .call (.c (.fn 108 [] [])) [(.t 6), (.t 7)]⟩,
 ⟨(some 4), none, .mov (.t 8)⟩] [] false)
.ret))⟩
-- 87 topiary/topiaryref12.Lex
def n_ref12_Lex : Nat := 87
def af_ref12_Lex : AF := ⟨44, [.tmp 2, .tmp 3],
(.seq
(.reg [⟨(some 2), none, .mov (.c (.sl true []))⟩,
 ⟨(some 3), none, .mov (.c (.int .i64 0))⟩] [] false)
(.seq
(.seq
(.reg [⟨(some 9), none, .mov (.t 0)⟩,
 ⟨(some 10), none, .slen (.t 9)⟩,
 ⟨(some 11), none, .bin .gtr (.t 10) (.c (.int .i64 65536))⟩] [] false)
(.cond (.t 11)
 (.seq
 (.reg [⟨(some 2), none, .mov (.c (.sl true []))⟩,
  ⟨(some 3), none, .mov (.c (.int .i64 18))⟩] [] false)
 .ret)
 .skip))
(.seq
(.reg [⟨(some 12), none, .mov (.t 0)⟩,
 ⟨(some 13), none, .call (.c (.fn 155 [] [])) [(.t 12)]⟩,
 ⟨(some 4), none, .mov (.t 13)⟩] [] false)
(.seq
(.seq
(.reg [⟨(some 14), none, .mov (.t 4)⟩,
 ⟨(some 15), none, .un .not (.t 14)⟩] [] false)
(.cond (.t 15)
 (.seq
 (.reg [⟨(some 2), none, .mov (.c (.sl true []))⟩,
  ⟨(some 3), none, .mov (.c (.int .i64 15))⟩] [] false)
 .ret)
 .skip))
(.seq
(.reg [⟨(some 5), none, .mov (.c (.sl true []))⟩] [] false)
(.seq
(.reg [⟨(some 6), none, .mov (.c (.int .i64 0))⟩] [] false)
(.seq
(.block 0
 (.loop
  (.seq
  (.seq
  (.reg [⟨(some 16), none, .mov (.t 6)⟩,
   ⟨(some 17), none, .mov (.t 0)⟩,
   ⟨(some 18), none, .slen (.t 17)⟩,
   ⟨(some 19), none, .bin .lss (.t 16) (.t 18)⟩] [] false)
  (.cond (.t 19)
   .skip
   (.exit 0)))
  (.block 1
   (.seq
   (.reg [⟨(some 21), none, .mov (.t 0)⟩,
    ⟨(some 22), none, .mov (.t 6)⟩,
    ⟨(some 23), none, .call (.c (.fn 156 [] [])) [(.t 21), (.t 22)]⟩,
    ⟨(some 20), none, .mov (.t 23)⟩,
    ⟨(some 24), none, .ext (.t 20) 0⟩,
    ⟨(some 25), none, .ext (.t 20) 1⟩,
    ⟨(some 7), none, .mov (.t 24)⟩,
    ⟨(some 8), none, .mov (.t 25)⟩] [] false)
   (.seq
   (.seq
   (.reg [⟨(some 26), none, .mov (.t 8)⟩,
    ⟨(some 27), none, .un .not (.t 26)⟩,
    ⟨(some 28), none, .mov (.t 27)⟩,
    ⟨(some 29), (some (28, false)), .mov (.t 7)⟩,
    ⟨(some 30), (some (28, false)), .len (.t 29)⟩,
    ⟨(some 31), (some (28, false)), .bin .eql (.t 30) (.c (.int .i64 0))⟩,
    ⟨(some 32), none, .pick (.t 28) (.c (.bool true)) (.t 31)⟩] [] false)
   (.cond (.t 32)
    (.seq
    (.reg [⟨(some 2), none, .mov (.c (.sl true []))⟩,
     ⟨(some 3), none, .mov (.c (.int .i64 15))⟩] [] false)
    .ret)
    .skip))
   (.seq
   (.reg [⟨(some 33), none, .mov (.t 5)⟩,
    ⟨(some 34), none, .mov (.t 7)⟩,
    ⟨(some 35), none, .app 183 5 56 (.t 33) (.t 34)⟩,
    ⟨(some 5), none, .mov (.t 35)⟩] [] false)
   (.reg [⟨(some 36), none, .mov (.t 7)⟩,
    ⟨(some 37), none, .mov (.t 7)⟩,
    ⟨(some 38), none, .len (.t 37)⟩,
    ⟨(some 39), none, .bin .sub (.t 38) (.c (.int .i64 1))⟩,
    ⟨(some 40), none, .idx 5 (.t 36) (.t 39)⟩,
    ⟨(some 41), none, .fad 2 (.t 40)⟩,
    ⟨(some 42), none, .load false 1 (.t 41)⟩,
    ⟨(some 6), none, .mov (.t 42)⟩] [] false))))))))
(.seq
(.reg [⟨(some 43), none, .mov (.t 5)⟩,
 ⟨(some 2), none, .mov (.t 43)⟩,
 ⟨(some 3), none, .mov (.c (.int .i64 0))⟩] [] false)
.ret))))))))⟩
-- 88 topiary/topiaryref13.texts
def n_ref13_texts : Nat := 88
def af_ref13_texts : AF := ⟨44, [.tmp 4, .tmp 5],
(.seq
(.reg [⟨(some 4), none, .mov (.c (.str ⟨#[]⟩))⟩,
 ⟨(some 5), none, .mov (.c (.int .i64 0))⟩] [] false)
(.seq
(.reg [⟨(some 6), none, .mov (.c (.str ⟨#[]⟩))⟩] [] false)
(.seq
(.block 0
 (.loop
  (.seq
  (.seq
  (.reg [⟨(some 7), none, .mov (.t 1)⟩,
   ⟨(some 8), none, .mov (.t 0)⟩,
   ⟨(some 9), none, .len (.t 8)⟩,
   ⟨(some 10), none, .bin .lss (.t 7) (.t 9)⟩,
   ⟨(some 11), none, .mov (.t 10)⟩,
   ⟨(some 12), (some (11, true)), .mov (.t 0)⟩,
   ⟨(some 13), (some (11, true)), .mov (.t 1)⟩,
   ⟨(some 14), (some (11, true)), .idx 5 (.t 12) (.t 13)⟩,
   ⟨(some 15), (some (11, true)), .fad 0 (.t 14)⟩,
   ⟨(some 16), (some (11, true)), .load false 1 (.t 15)⟩,
   ⟨(some 17), (some (11, true)), .bin .eql (.t 16) (.c (.int .i64 6))⟩,
   ⟨(some 18), (some (11, true)), .mov (.t 17)⟩,
   ⟨(some 19), (some (18, false)), .mov (.t 0)⟩,
   ⟨(some 20), (some (18, false)), .mov (.t 1)⟩,
   ⟨(some 21), (some (18, false)), .idx 5 (.t 19) (.t 20)⟩,
   ⟨(some 22), (some (18, false)), .fad 0 (.t 21)⟩,
   ⟨(some 23), (some (18, false)), .load false 1 (.t 22)⟩,
   ⟨(some 24), (some (18, false)), .bin .eql (.t 23) (.c (.int .i64 7))⟩,
   ⟨(some 25), (some (11, true)), .pick (.t 18) (.c (.bool true)) (.t 24)⟩,
   ⟨(some 26), none, .pick (.t 11) (.t 25) (.c (.bool false))⟩] [] false)
  (.cond (.t 26)
   .skip
   (.exit 0)))
  (.block 1
   (.seq
   (.seq
   (.reg [⟨(some 27), none, .mov (.t 0)⟩,
    ⟨(some 28), none, .mov (.t 1)⟩,
    ⟨(some 29), none, .idx 5 (.t 27) (.t 28)⟩,
    ⟨(some 30), none, .fad 0 (.t 29)⟩,
    ⟨(some 31), none, .load false 1 (.t 30)⟩,
    ⟨(some 32), none, .bin .eql (.t 31) (.c (.int .i64 6))⟩] [] false)
   (.cond (.t 32)
    (.reg [⟨(some 33), none, .mov (.t 6)⟩,
     ⟨(some 34), none, .mov (.t 0)⟩,
     ⟨(some 35), none, .mov (.t 1)⟩,
     ⟨(some 36), none, .idx 5 (.t 34) (.t 35)⟩,
     ⟨(some 37), none, .fad 4 (.t 36)⟩,
     ⟨(some 38), none, .load false 1 (.t 37)⟩,
     ⟨(some 39), none, .bin .add (.t 33) (.t 38)⟩,
     ⟨(some 6), none, .mov (.t 39)⟩] [] false)
    .skip))
   (.reg [⟨(some 40), none, .mov (.t 1)⟩,
    ⟨(some 41), none, .bin .add (.t 40) (.c (.int .i64 1))⟩,
    ⟨(some 1), none, .mov (.t 41)⟩] [] false))))))
(.seq
(.reg [⟨(some 42), none, .mov (.t 6)⟩,
 ⟨(some 43), none, .mov (.t 1)⟩,
 ⟨(some 4), none, .mov (.t 42)⟩,
 ⟨(some 5), none, .mov (.t 43)⟩] [] false)
.ret))))⟩
-- 89 topiary/topiaryref13.spaces
def n_ref13_spaces : Nat := 89
def af_ref13_spaces : AF := ⟨8, [.tmp 2],
(.seq
(.reg [⟨(some 2), none, .mov (.c (.bool false))⟩] [] false)
(.seq
(.reg [⟨(some 3), none, .mov (.t 0)⟩,
 ⟨(some 4), none, .call (.c (.fn 157 [] [])) [(.t 3), (.c (.int .i64 0))]⟩,
 ⟨(some 5), none, .mov (.t 0)⟩,
 ⟨(some 6), none, .slen (.t 5)⟩,
 ⟨(some 7), none, .bin .eql (.t 4) (.t 6)⟩,
 ⟨(some 2), none, .mov (.t 7)⟩] [] false)
.ret))⟩
-- 90 topiary/topiaryref13.element
def n_ref13_element : Nat := 90
def af_ref13_element : AF := ⟨178, [.tmp 10, .tmp 11, .tmp 12],
(.seq
(.reg [⟨(some 10), none, .mov (.c (.sl true []))⟩,
 ⟨(some 11), none, .mov (.c (.int .i64 0))⟩,
 ⟨(some 12), none, .mov (.c (.bool false))⟩] [] false)
(.seq
(.seq
(.reg [⟨(some 21), none, .mov (.t 1)⟩,
 ⟨(some 22), none, .mov (.t 0)⟩,
 ⟨(some 23), none, .len (.t 22)⟩,
 ⟨(some 24), none, .bin .geq (.t 21) (.t 23)⟩,
 ⟨(some 25), none, .mov (.t 24)⟩,
 ⟨(some 26), (some (25, false)), .mov (.t 0)⟩,
 ⟨(some 27), (some (25, false)), .mov (.t 1)⟩,
 ⟨(some 28), (some (25, false)), .idx 5 (.t 26) (.t 27)⟩,
 ⟨(some 29), (some (25, false)), .fad 0 (.t 28)⟩,
 ⟨(some 30), (some (25, false)), .load false 1 (.t 29)⟩,
 ⟨(some 31), (some (25, false)), .bin .neq (.t 30) (.c (.int .i64 1))⟩,
 ⟨(some 32), none, .pick (.t 25) (.c (.bool true)) (.t 31)⟩,
 ⟨(some 33), none, .mov (.t 32)⟩,
 ⟨(some 34), (some (33, false)), .mov (.t 4)⟩,
 ⟨(some 35), (some (33, false)), .bin .gtr (.t 34) (.c (.int .i64 3000))⟩,
 ⟨(some 36), none, .pick (.t 33) (.c (.bool true)) (.t 35)⟩] [] false)
(.cond (.t 36)
 (.seq
 (.reg [⟨(some 37), none, .mov (.t 3)⟩,
  ⟨(some 38), none, .mov (.t 1)⟩,
  ⟨(some 10), none, .mov (.t 37)⟩,
  ⟨(some 11), none, .mov (.t 38)⟩,
  ⟨(some 12), none, .mov (.c (.bool false))⟩] [] false)
 .ret)
 .skip))
(.seq
(.reg [⟨(some 39), none, .mov (.t 3)⟩,
 ⟨(some 40), none, .len (.t 39)⟩,
 ⟨(some 13), none, .mov (.t 40)⟩] [] false)
(.seq
(.reg [⟨(some 41), none, .mov (.t 0)⟩,
 ⟨(some 42), none, .mov (.t 1)⟩,
 ⟨(some 43), none, .idx 5 (.t 41) (.t 42)⟩,
 ⟨(some 44), none, .fad 3 (.t 43)⟩,
 ⟨(some 45), none, .load false 1 (.t 44)⟩,
 ⟨(some 14), none, .mov (.t 45)⟩] [] false)
(.seq
(.reg [⟨(some 46), none, .mov (.t 3)⟩,
 ⟨(some 47), none, .mov (.t 2)⟩,
 ⟨(some 48), none, .build [(.int .i64 0), (.int .i64 0), (.int .i64 0), (.str ⟨#[]⟩)] [(0, 1, (.c (.int .i64 1))), (2, 1, (.t 47))]⟩,
 ⟨(some 49), none, .mov (.t 14)⟩,
 ⟨(some 50), none, .build [(.int .i64 0), (.int .i64 0), (.int .i64 0), (.str ⟨#[]⟩), (.str ⟨#[]⟩)] [(0, 4, (.t 48)), (4, 1, (.t 49))]⟩,
 ⟨(some 51), none, .bsl 186 5 [(.t 50)]⟩,
 ⟨(some 52), none, .app 186 5 56 (.t 46) (.t 51)⟩,
 ⟨(some 3), none, .mov (.t 52)⟩] [] false)
(.seq
(.reg [⟨(some 53), none, .mov (.t 1)⟩,
 ⟨(some 54), none, .bin .add (.t 53) (.c (.int .i64 1))⟩,
 ⟨(some 1), none, .mov (.t 54)⟩] [] false)
(.seq
(.block 0
 (.loop
  (.seq
  (.seq
  (.reg [⟨(some 55), none, .mov (.t 1)⟩,
   ⟨(some 56), none, .mov (.t 0)⟩,
   ⟨(some 57), none, .len (.t 56)⟩,
   ⟨(some 58), none, .bin .lss (.t 55) (.t 57)⟩,
   ⟨(some 59), none, .mov (.t 58)⟩,
   ⟨(some 60), (some (59, true)), .mov (.t 0)⟩,
   ⟨(some 61), (some (59, true)), .mov (.t 1)⟩,
   ⟨(some 62), (some (59, true)), .idx 5 (.t 60) (.t 61)⟩,
   ⟨(some 63), (some (59, true)), .fad 0 (.t 62)⟩,
   ⟨(some 64), (some (59, true)), .load false 1 (.t 63)⟩,
   ⟨(some 65), (some (59, true)), .bin .eql (.t 64) (.c (.int .i64 2))⟩,
   ⟨(some 66), none, .pick (.t 59) (.t 65) (.c (.bool false))⟩] [] false)
  (.cond (.t 66)
   .skip
   (.exit 0)))
  (.block 1
   (.seq
   (.seq
   (.reg [⟨(some 67), none, .mov (.t 13)⟩,
    ⟨(some 68), none, .bin .add (.t 67) (.c (.int .i64 1))⟩,
    ⟨(some 15), none, .mov (.t 68)⟩] [] false)
   (.block 2
    (.loop
     (.seq
     (.seq
     (.reg [⟨(some 69), none, .mov (.t 15)⟩,
      ⟨(some 70), none, .mov (.t 3)⟩,
      ⟨(some 71), none, .len (.t 70)⟩,
      ⟨(some 72), none, .bin .lss (.t 69) (.t 71)⟩] [] false)
     (.cond (.t 72)
      .skip
      (.exit 2)))
     (.seq
     (.block 3
      (.seq
      (.reg [⟨(some 75), none, .mov (.t 3)⟩,
       ⟨(some 76), none, .mov (.t 15)⟩,
       ⟨(some 77), none, .idx 5 (.t 75) (.t 76)⟩,
       ⟨(some 78), none, .fad 4 (.t 77)⟩,
       ⟨(some 79), none, .load false 1 (.t 78)⟩,
       ⟨(some 80), none, .mov (.t 0)⟩,
       ⟨(some 81), none, .mov (.t 1)⟩,
       ⟨(some 82), none, .idx 5 (.t 80) (.t 81)⟩,
       ⟨(some 83), none, .fad 3 (.t 82)⟩,
       ⟨(some 84), none, .load false 1 (.t 83)⟩,
       ⟨(some 85), none, .bin .eql (.t 79) (.t 84)⟩] [] false)
      (.cond (.t 85)
       (.seq
       (.reg [⟨(some 86), none, .mov (.t 3)⟩,
        ⟨(some 87), none, .mov (.t 1)⟩,
        ⟨(some 10), none, .mov (.t 86)⟩,
        ⟨(some 11), none, .mov (.t 87)⟩,
        ⟨(some 12), none, .mov (.c (.bool false))⟩] [] false)
       .ret)
       .skip)))
     (.reg [⟨(some 73), none, .mov (.t 15)⟩,
      ⟨(some 74), none, .bin .add (.t 73) (.c (.int .i64 1))⟩,
      ⟨(some 15), none, .mov (.t 74)⟩] [] false))))))
   (.seq
   (.reg [⟨(some 88), none, .mov (.t 3)⟩,
    ⟨(some 89), none, .mov (.t 13)⟩,
    ⟨(some 90), none, .mov (.t 0)⟩,
    ⟨(some 91), none, .mov (.t 1)⟩,
    ⟨(some 92), none, .idx 5 (.t 90) (.t 91)⟩,
    ⟨(some 93), none, .fad 4 (.t 92)⟩,
    ⟨(some 94), none, .load false 1 (.t 93)⟩,
    ⟨(some 95), none, .build [(.int .i64 0), (.int .i64 0), (.int .i64 0), (.str ⟨#[]⟩)] [(0, 1, (.c (.int .i64 2))), (2, 1, (.t 89)), (3, 1, (.t 94))]⟩,
    ⟨(some 96), none, .mov (.t 0)⟩,
    ⟨(some 97), none, .mov (.t 1)⟩,
    ⟨(some 98), none, .idx 5 (.t 96) (.t 97)⟩,
    ⟨(some 99), none, .fad 3 (.t 98)⟩,
    ⟨(some 100), none, .load false 1 (.t 99)⟩,
    ⟨(some 101), none, .build [(.int .i64 0), (.int .i64 0), (.int .i64 0), (.str ⟨#[]⟩), (.str ⟨#[]⟩)] [(0, 4, (.t 95)), (4, 1, (.t 100))]⟩,
    ⟨(some 102), none, .bsl 186 5 [(.t 101)]⟩,
    ⟨(some 103), none, .app 186 5 56 (.t 88) (.t 102)⟩,
    ⟨(some 3), none, .mov (.t 103)⟩] [] false)
   (.reg [⟨(some 104), none, .mov (.t 1)⟩,
    ⟨(some 105), none, .bin .add (.t 104) (.c (.int .i64 1))⟩,
    ⟨(some 1), none, .mov (.t 105)⟩] [] false)))))))
(.seq
(.seq
(.reg [⟨(some 106), none, .mov (.t 1)⟩,
 ⟨(some 107), none, .mov (.t 0)⟩,
 ⟨(some 108), none, .len (.t 107)⟩,
 ⟨(some 109), none, .bin .geq (.t 106) (.t 108)⟩] [] false)
(.cond (.t 109)
 (.seq
 (.reg [⟨(some 110), none, .mov (.t 3)⟩,
  ⟨(some 111), none, .mov (.t 1)⟩,
  ⟨(some 10), none, .mov (.t 110)⟩,
  ⟨(some 11), none, .mov (.t 111)⟩,
  ⟨(some 12), none, .mov (.c (.bool false))⟩] [] false)
 .ret)
 .skip))
(.seq
(.seq
(.reg [⟨(some 112), none, .mov (.t 0)⟩,
 ⟨(some 113), none, .mov (.t 1)⟩,
 ⟨(some 114), none, .idx 5 (.t 112) (.t 113)⟩,
 ⟨(some 115), none, .fad 0 (.t 114)⟩,
 ⟨(some 116), none, .load false 1 (.t 115)⟩,
 ⟨(some 117), none, .bin .eql (.t 116) (.c (.int .i64 4))⟩] [] false)
(.cond (.t 117)
 (.seq
 (.reg [⟨(some 118), none, .mov (.t 3)⟩,
  ⟨(some 119), none, .mov (.t 1)⟩,
  ⟨(some 120), none, .bin .add (.t 119) (.c (.int .i64 1))⟩,
  ⟨(some 10), none, .mov (.t 118)⟩,
  ⟨(some 11), none, .mov (.t 120)⟩,
  ⟨(some 12), none, .mov (.c (.bool true))⟩] [] false)
 .ret)
 .skip))
(.seq
(.reg [⟨(some 121), none, .mov (.t 1)⟩,
 ⟨(some 122), none, .bin .add (.t 121) (.c (.int .i64 1))⟩,
 ⟨(some 1), none, .mov (.t 122)⟩] [] false)
(.block 4
 (.loop
  (.block 5
   (.seq
   (.reg [⟨(some 124), none, .mov (.t 0)⟩,
    ⟨(some 125), none, .mov (.t 1)⟩,
    ⟨(some 126), none, .call (.c (.fn 88 [] [])) [(.t 124), (.t 125)]⟩,
    ⟨(some 123), none, .mov (.t 126)⟩,
    ⟨(some 127), none, .ext (.t 123) 0⟩,
    ⟨(some 128), none, .ext (.t 123) 1⟩,
    ⟨(some 16), none, .mov (.t 127)⟩,
    ⟨(some 17), none, .mov (.t 128)⟩] [] false)
   (.seq
   (.seq
   (.reg [⟨(some 129), none, .mov (.t 16)⟩,
    ⟨(some 130), none, .bin .neq (.t 129) (.c (.str ⟨#[]⟩))⟩] [] false)
   (.cond (.t 130)
    (.reg [⟨(some 131), none, .mov (.t 3)⟩,
     ⟨(some 132), none, .mov (.t 13)⟩,
     ⟨(some 133), none, .mov (.t 16)⟩,
     ⟨(some 134), none, .build [(.int .i64 0), (.int .i64 0), (.int .i64 0), (.str ⟨#[]⟩)] [(0, 1, (.c (.int .i64 3))), (1, 1, (.c (.int .i64 (-1)))), (2, 1, (.t 132)), (3, 1, (.t 133))]⟩,
     ⟨(some 135), none, .build [(.int .i64 0), (.int .i64 0), (.int .i64 0), (.str ⟨#[]⟩), (.str ⟨#[]⟩)] [(0, 4, (.t 134)), (4, 1, (.c (.str ⟨#[]⟩)))]⟩,
     ⟨(some 136), none, .bsl 186 5 [(.t 135)]⟩,
     ⟨(some 137), none, .app 186 5 56 (.t 131) (.t 136)⟩,
     ⟨(some 3), none, .mov (.t 137)⟩] [] false)
    .skip))
   (.seq
   (.reg [⟨(some 138), none, .mov (.t 17)⟩,
    ⟨(some 1), none, .mov (.t 138)⟩] [] false)
   (.seq
   (.seq
   (.reg [⟨(some 139), none, .mov (.t 1)⟩,
    ⟨(some 140), none, .mov (.t 0)⟩,
    ⟨(some 141), none, .len (.t 140)⟩,
    ⟨(some 142), none, .bin .geq (.t 139) (.t 141)⟩] [] false)
   (.cond (.t 142)
    (.seq
    (.reg [⟨(some 143), none, .mov (.t 3)⟩,
     ⟨(some 144), none, .mov (.t 1)⟩,
     ⟨(some 10), none, .mov (.t 143)⟩,
     ⟨(some 11), none, .mov (.t 144)⟩,
     ⟨(some 12), none, .mov (.c (.bool false))⟩] [] false)
    .ret)
    .skip))
   (.seq
   (.seq
   (.reg [⟨(some 145), none, .mov (.t 0)⟩,
    ⟨(some 146), none, .mov (.t 1)⟩,
    ⟨(some 147), none, .idx 5 (.t 145) (.t 146)⟩,
    ⟨(some 148), none, .fad 0 (.t 147)⟩,
    ⟨(some 149), none, .load false 1 (.t 148)⟩,
    ⟨(some 150), none, .bin .eql (.t 149) (.c (.int .i64 5))⟩] [] false)
   (.cond (.t 150)
    (.seq
    (.reg [⟨(some 151), none, .mov (.t 3)⟩,
     ⟨(some 152), none, .mov (.t 1)⟩,
     ⟨(some 153), none, .bin .add (.t 152) (.c (.int .i64 1))⟩,
     ⟨(some 154), none, .mov (.t 0)⟩,
     ⟨(some 155), none, .mov (.t 1)⟩,
     ⟨(some 156), none, .idx 5 (.t 154) (.t 155)⟩,
     ⟨(some 157), none, .fad 3 (.t 156)⟩,
     ⟨(some 158), none, .load false 1 (.t 157)⟩,
     ⟨(some 159), none, .mov (.t 14)⟩,
     ⟨(some 160), none, .bin .eql (.t 158) (.t 159)⟩,
     ⟨(some 10), none, .mov (.t 151)⟩,
     ⟨(some 11), none, .mov (.t 153)⟩,
     ⟨(some 12), none, .mov (.t 160)⟩] [] false)
    .ret)
    .skip))
   (.seq
   (.reg [⟨(some 162), none, .mov (.t 0)⟩,
    ⟨(some 163), none, .mov (.t 1)⟩,
    ⟨(some 164), none, .mov (.t 13)⟩,
    ⟨(some 165), none, .mov (.t 3)⟩,
    ⟨(some 166), none, .mov (.t 4)⟩,
    ⟨(some 167), none, .bin .add (.t 166) (.c (.int .i64 1))⟩,
    ⟨(some 168), none, .call (.c (.fn 90 [] [])) [(.t 162), (.t 163), (.t 164), (.t 165), (.t 167)]⟩,
    ⟨(some 161), none, .mov (.t 168)⟩,
    ⟨(some 169), none, .ext (.t 161) 0⟩,
    ⟨(some 170), none, .ext (.t 161) 1⟩,
    ⟨(some 171), none, .ext (.t 161) 2⟩,
    ⟨(some 18), none, .mov (.t 169)⟩,
    ⟨(some 19), none, .mov (.t 170)⟩,
    ⟨(some 20), none, .mov (.t 171)⟩] [] false)
   (.seq
   (.seq
   (.reg [⟨(some 172), none, .mov (.t 20)⟩,
    ⟨(some 173), none, .un .not (.t 172)⟩] [] false)
   (.cond (.t 173)
    (.seq
    (.reg [⟨(some 174), none, .mov (.t 18)⟩,
     ⟨(some 175), none, .mov (.t 19)⟩,
     ⟨(some 10), none, .mov (.t 174)⟩,
     ⟨(some 11), none, .mov (.t 175)⟩,
     ⟨(some 12), none, .mov (.c (.bool false))⟩] [] false)
    .ret)
    .skip))
   (.seq
   (.reg [⟨(some 176), none, .mov (.t 18)⟩,
    ⟨(some 3), none, .mov (.t 176)⟩] [] false)
   (.reg [⟨(some 177), none, .mov (.t 19)⟩,
    ⟨(some 1), none, .mov (.t 177)⟩] [] false))))))))))))))))))))))⟩
-- 91 topiary/topiaryref13.limited
def n_ref13_limited : Nat := 91
def af_ref13_limited : AF := ⟨94, [.cell 2 true 2, .tmp 3],
(.seq
(.reg [⟨(some 2), none, .alc (.agg [(.sl true []), (.sl true [])])⟩,
 ⟨(some 3), none, .mov (.c (.int .i64 0))⟩] [] false)
(.seq
(.seq
(.reg [⟨(some 11), none, .mov (.t 0)⟩,
 ⟨(some 12), none, .len (.t 11)⟩,
 ⟨(some 13), none, .bin .gtr (.t 12) (.c (.int .i64 5000))⟩] [] false)
(.cond (.t 13)
 (.seq
 (.reg [⟨(some 14), none, .build [(.sl true []), (.sl true [])] []⟩,
  ⟨none, none, .store 2 (.t 2) (.t 14)⟩,
  ⟨(some 3), none, .mov (.c (.int .i64 18))⟩] [] false)
 .ret)
 .skip))
(.seq
(.reg [⟨(some 4), none, .alc (.agg [(.sl true []), (.sl true [])])⟩] [] false)
(.seq
(.reg [⟨(some 5), none, .mov (.c (.sl true []))⟩] [] false)
(.seq
(.seq
(.reg [⟨(some 6), none, .mov (.c (.int .i64 0))⟩] [] false)
(.block 0
 (.loop
  (.seq
  (.seq
  (.reg [⟨(some 15), none, .mov (.t 6)⟩,
   ⟨(some 16), none, .mov (.t 0)⟩,
   ⟨(some 17), none, .len (.t 16)⟩,
   ⟨(some 18), none, .bin .lss (.t 15) (.t 17)⟩] [] false)
  (.cond (.t 18)
   .skip
   (.exit 0)))
  (.seq
  (.block 1
   (.seq
   (.reg [⟨(some 21), none, .mov (.t 0)⟩,
    ⟨(some 22), none, .mov (.t 6)⟩,
    ⟨(some 23), none, .idx 5 (.t 21) (.t 22)⟩,
    ⟨(some 24), none, .load true 5 (.t 23)⟩,
    ⟨(some 7), none, .alc (.agg [(.int .i64 0), (.int .i64 0), (.int .i64 0), (.str ⟨#[]⟩), (.str ⟨#[]⟩)])⟩,
    ⟨none, none, .store 5 (.t 7) (.t 24)⟩] [] false)
   (.seq
   (.reg [⟨(some 8), none, .mov (.c (.int .i64 0))⟩] [] false)
   (.seq
   (.seq
   (.reg [⟨(some 25), none, .fad 0 (.t 7)⟩,
    ⟨(some 26), none, .fad 2 (.t 25)⟩,
    ⟨(some 27), none, .load false 1 (.t 26)⟩,
    ⟨(some 28), none, .bin .geq (.t 27) (.c (.int .i64 0))⟩] [] false)
   (.cond (.t 28)
    (.reg [⟨(some 29), none, .mov (.t 5)⟩,
     ⟨(some 30), none, .fad 0 (.t 7)⟩,
     ⟨(some 31), none, .fad 2 (.t 30)⟩,
     ⟨(some 32), none, .load false 1 (.t 31)⟩,
     ⟨(some 33), none, .idx 1 (.t 29) (.t 32)⟩,
     ⟨(some 34), none, .load false 1 (.t 33)⟩,
     ⟨(some 35), none, .bin .add (.t 34) (.c (.int .i64 1))⟩,
     ⟨(some 8), none, .mov (.t 35)⟩] [] false)
    .skip))
   (.seq
   (.reg [⟨(some 36), none, .mov (.t 5)⟩,
    ⟨(some 37), none, .mov (.t 8)⟩,
    ⟨(some 38), none, .bsl 3 1 [(.t 37)]⟩,
    ⟨(some 39), none, .app 3 1 8 (.t 36) (.t 38)⟩,
    ⟨(some 5), none, .mov (.t 39)⟩] [] false)
   (.seq
   (.seq
   (.reg [⟨(some 40), none, .fad 0 (.t 7)⟩,
    ⟨(some 41), none, .fad 0 (.t 40)⟩,
    ⟨(some 42), none, .load false 1 (.t 41)⟩,
    ⟨(some 43), none, .bin .eql (.t 42) (.c (.int .i64 1))⟩,
    ⟨(some 44), none, .mov (.t 43)⟩,
    ⟨(some 45), (some (44, true)), .mov (.t 8)⟩,
    ⟨(some 46), (some (44, true)), .bin .gtr (.t 45) (.c (.int .i64 64))⟩,
    ⟨(some 47), none, .pick (.t 44) (.t 46) (.c (.bool false))⟩] [] false)
   (.cond (.t 47)
    (.seq
    (.reg [⟨(some 48), none, .build [(.sl true []), (.sl true [])] []⟩,
     ⟨none, none, .store 2 (.t 2) (.t 48)⟩,
     ⟨(some 3), none, .mov (.c (.int .i64 18))⟩] [] false)
    .ret)
    .skip))
   (.seq
   (.reg [⟨(some 49), none, .fad 0 (.t 7)⟩,
    ⟨(some 50), none, .fad 0 (.t 49)⟩,
    ⟨(some 51), none, .load false 1 (.t 50)⟩,
    ⟨(some 52), none, .bin .neq (.t 51) (.c (.int .i64 3))⟩] [] false)
   (.cond (.t 52)
    (.reg [⟨(some 53), none, .fad 0 (.t 4)⟩,
     ⟨(some 54), none, .load false 1 (.t 53)⟩,
     ⟨(some 55), none, .fad 4 (.t 7)⟩,
     ⟨(some 56), none, .load false 1 (.t 55)⟩,
     ⟨(some 57), none, .call (.c (.fn 158 [] [])) [(.t 54), (.t 56)]⟩,
     ⟨(some 58), none, .fad 0 (.t 4)⟩,
     ⟨none, none, .store 1 (.t 58) (.t 57)⟩] [] false)
    .skip))))))))
  (.reg [⟨(some 19), none, .mov (.t 6)⟩,
   ⟨(some 20), none, .bin .add (.t 19) (.c (.int .i64 1))⟩,
   ⟨(some 6), none, .mov (.t 20)⟩] [] false))))))
(.seq
(.seq
(.reg [⟨(some 59), none, .fad 0 (.t 4)⟩,
 ⟨(some 60), none, .load false 1 (.t 59)⟩,
 ⟨(some 61), none, .len (.t 60)⟩,
 ⟨(some 62), none, .bin .gtr (.t 61) (.c (.int .i64 1000))⟩] [] false)
(.cond (.t 62)
 (.seq
 (.reg [⟨(some 63), none, .build [(.sl true []), (.sl true [])] []⟩,
  ⟨none, none, .store 2 (.t 2) (.t 63)⟩,
  ⟨(some 3), none, .mov (.c (.int .i64 18))⟩] [] false)
 .ret)
 .skip))
(.seq
(.seq
(.reg [⟨(some 9), none, .mov (.c (.int .i64 0))⟩] [] false)
(.block 2
 (.loop
  (.seq
  (.seq
  (.reg [⟨(some 64), none, .mov (.t 9)⟩,
   ⟨(some 65), none, .mov (.t 0)⟩,
   ⟨(some 66), none, .len (.t 65)⟩,
   ⟨(some 67), none, .bin .lss (.t 64) (.t 66)⟩] [] false)
  (.cond (.t 67)
   .skip
   (.exit 2)))
  (.seq
  (.block 3
   (.seq
   (.reg [⟨(some 70), none, .mov (.t 0)⟩,
    ⟨(some 71), none, .mov (.t 9)⟩,
    ⟨(some 72), none, .idx 5 (.t 70) (.t 71)⟩,
    ⟨(some 73), none, .fad 0 (.t 72)⟩,
    ⟨(some 74), none, .load true 4 (.t 73)⟩,
    ⟨(some 10), none, .alc (.agg [(.int .i64 0), (.int .i64 0), (.int .i64 0), (.str ⟨#[]⟩)])⟩,
    ⟨none, none, .store 4 (.t 10) (.t 74)⟩] [] false)
   (.seq
   (.seq
   (.reg [⟨(some 75), none, .fad 0 (.t 10)⟩,
    ⟨(some 76), none, .load false 1 (.t 75)⟩,
    ⟨(some 77), none, .bin .neq (.t 76) (.c (.int .i64 3))⟩] [] false)
   (.cond (.t 77)
    (.reg [⟨(some 78), none, .fad 0 (.t 4)⟩,
     ⟨(some 79), none, .load false 1 (.t 78)⟩,
     ⟨(some 80), none, .mov (.t 0)⟩,
     ⟨(some 81), none, .mov (.t 9)⟩,
     ⟨(some 82), none, .idx 5 (.t 80) (.t 81)⟩,
     ⟨(some 83), none, .fad 4 (.t 82)⟩,
     ⟨(some 84), none, .load false 1 (.t 83)⟩,
     ⟨(some 85), none, .call (.c (.fn 159 [] [])) [(.t 79), (.t 84)]⟩,
     ⟨(some 86), none, .fad 1 (.t 10)⟩,
     ⟨none, none, .store 1 (.t 86) (.t 85)⟩] [] false)
    .skip))
   (.reg [⟨(some 87), none, .fad 1 (.t 4)⟩,
    ⟨(some 88), none, .load false 1 (.t 87)⟩,
    ⟨(some 89), none, .load true 4 (.t 10)⟩,
    ⟨(some 90), none, .bsl 132 4 [(.t 89)]⟩,
    ⟨(some 91), none, .app 132 4 40 (.t 88) (.t 90)⟩,
    ⟨(some 92), none, .fad 1 (.t 4)⟩,
    ⟨none, none, .store 1 (.t 92) (.t 91)⟩] [] false))))
  (.reg [⟨(some 68), none, .mov (.t 9)⟩,
   ⟨(some 69), none, .bin .add (.t 68) (.c (.int .i64 1))⟩,
   ⟨(some 9), none, .mov (.t 69)⟩] [] false))))))
(.seq
(.reg [⟨(some 93), none, .load true 2 (.t 4)⟩,
 ⟨none, none, .store 2 (.t 2) (.t 93)⟩,
 ⟨(some 3), none, .mov (.c (.int .i64 0))⟩] [] false)
.ret))))))))⟩
-- 92 topiary/topiaryref16.Order
def n_ref16_Order : Nat := 92
def af_ref16_Order : AF := ⟨49, [.tmp 2],
(.seq
(.reg [⟨(some 1), none, .box (.t 0)⟩,
 ⟨(some 2), none, .mov (.c (.sl true []))⟩] [] false)
(.seq
(.reg [⟨(some 3), none, .mov (.c (.sl true []))⟩] [] false)
(.seq
(.seq
(.reg [⟨(some 4), none, .mov (.c (.int .i64 0))⟩] [] false)
(.block 0
 (.loop
  (.seq
  (.seq
  (.reg [⟨(some 8), none, .mov (.t 4)⟩,
   ⟨(some 9), none, .fad 1 (.t 1)⟩,
   ⟨(some 10), none, .load false 1 (.t 9)⟩,
   ⟨(some 11), none, .len (.t 10)⟩,
   ⟨(some 12), none, .bin .lss (.t 8) (.t 11)⟩] [] false)
  (.cond (.t 12)
   .skip
   (.exit 0)))
  (.seq
  (.block 1
   (.seq
   (.reg [⟨(some 15), none, .mov (.t 3)⟩,
    ⟨(some 16), none, .len (.t 15)⟩,
    ⟨(some 5), none, .mov (.t 16)⟩] [] false)
   (.seq
   (.block 2
    (.loop
     (.seq
     (.seq
     (.reg [⟨(some 17), none, .mov (.t 5)⟩,
      ⟨(some 18), none, .bin .gtr (.t 17) (.c (.int .i64 0))⟩] [] false)
     (.cond (.t 18)
      .skip
      (.exit 2)))
     (.block 3
      (.seq
      (.reg [⟨(some 19), none, .load true 2 (.t 1)⟩,
       ⟨(some 20), none, .mov (.t 4)⟩,
       ⟨(some 21), none, .call (.c (.fn 68 [] [])) [(.t 19), (.t 20)]⟩,
       ⟨(some 22), none, .load true 2 (.t 1)⟩,
       ⟨(some 23), none, .mov (.t 3)⟩,
       ⟨(some 24), none, .mov (.t 5)⟩,
       ⟨(some 25), none, .bin .sub (.t 24) (.c (.int .i64 1))⟩,
       ⟨(some 26), none, .idx 1 (.t 23) (.t 25)⟩,
       ⟨(some 27), none, .load false 1 (.t 26)⟩,
       ⟨(some 28), none, .call (.c (.fn 68 [] [])) [(.t 22), (.t 27)]⟩,
       ⟨(some 29), none, .call (.c (.fn 160 [] [])) [(.t 21), (.t 28)]⟩,
       ⟨(some 6), none, .mov (.t 29)⟩] [] true)
      (.seq
      (.seq
      (.reg [⟨(some 30), none, .mov (.t 6)⟩,
       ⟨(some 31), none, .un .not (.t 30)⟩] [] false)
      (.cond (.t 31)
       (.exit 2)
       .skip))
      (.reg [⟨(some 32), none, .mov (.t 5)⟩,
       ⟨(some 33), none, .bin .sub (.t 32) (.c (.int .i64 1))⟩,
       ⟨(some 5), none, .mov (.t 33)⟩] [] false)))))))
   (.seq
   (.reg [⟨(some 7), none, .mov (.c (.sl true []))⟩] [] false)
   (.seq
   (.reg [⟨(some 34), none, .mov (.t 7)⟩,
    ⟨(some 35), none, .mov (.t 3)⟩,
    ⟨(some 36), none, .mov (.t 5)⟩,
    ⟨(some 37), none, .slc 1 (.t 35) none (some (.t 36)) none⟩,
    ⟨(some 38), none, .app 3 1 8 (.t 34) (.t 37)⟩,
    ⟨(some 7), none, .mov (.t 38)⟩] [] false)
   (.seq
   (.reg [⟨(some 39), none, .mov (.t 7)⟩,
    ⟨(some 40), none, .mov (.t 4)⟩,
    ⟨(some 41), none, .bsl 3 1 [(.t 40)]⟩,
    ⟨(some 42), none, .app 3 1 8 (.t 39) (.t 41)⟩,
    ⟨(some 7), none, .mov (.t 42)⟩] [] false)
   (.reg [⟨(some 43), none, .mov (.t 7)⟩,
    ⟨(some 44), none, .mov (.t 3)⟩,
    ⟨(some 45), none, .mov (.t 5)⟩,
    ⟨(some 46), none, .slc 1 (.t 44) (some (.t 45)) none none⟩,
    ⟨(some 47), none, .app 3 1 8 (.t 43) (.t 46)⟩,
    ⟨(some 3), none, .mov (.t 47)⟩] [] false)))))))
  (.reg [⟨(some 13), none, .mov (.t 4)⟩,
   ⟨(some 14), none, .bin .add (.t 13) (.c (.int .i64 1))⟩,
   ⟨(some 4), none, .mov (.t 14)⟩] [] false))))))
(.seq
(.reg [⟨(some 48), none, .mov (.t 3)⟩,
 ⟨(some 2), none, .mov (.t 48)⟩] [] false)
.ret))))⟩
-- 93 topiary/nav.shape
def n_nav_shape : Nat := 93
def af_nav_shape : AF := ⟨67, [.tmp 4],
(.seq
(.reg [⟨(some 2), none, .box (.t 0)⟩,
 ⟨(some 3), none, .box (.t 1)⟩,
 ⟨(some 4), none, .mov (.c (.bool false))⟩] [] false)
(.seq
(.reg [⟨(some 8), none, .fad 0 (.t 2)⟩,
 ⟨(some 9), none, .load false 1 (.t 8)⟩,
 ⟨(some 10), none, .len (.t 9)⟩,
 ⟨(some 5), none, .alc (.int .i64 0)⟩,
 ⟨none, none, .store 1 (.t 5) (.t 10)⟩] [] false)
(.seq
(.seq
(.reg [⟨(some 11), none, .load false 1 (.t 3)⟩,
 ⟨(some 12), none, .bin .lss (.t 11) (.c (.int .i64 0))⟩,
 ⟨(some 13), none, .mov (.t 12)⟩,
 ⟨(some 14), (some (13, false)), .load false 1 (.t 3)⟩,
 ⟨(some 15), (some (13, false)), .bin .gtr (.t 14) (.c (.int .i64 1000))⟩,
 ⟨(some 16), none, .pick (.t 13) (.c (.bool true)) (.t 15)⟩,
 ⟨(some 17), none, .mov (.t 16)⟩,
 ⟨(some 18), (some (17, false)), .load false 1 (.t 5)⟩,
 ⟨(some 19), (some (17, false)), .bin .lss (.t 18) (.c (.int .i64 1))⟩,
 ⟨(some 20), none, .pick (.t 17) (.c (.bool true)) (.t 19)⟩,
 ⟨(some 21), none, .mov (.t 20)⟩,
 ⟨(some 22), (some (21, false)), .load false 1 (.t 5)⟩,
 ⟨(some 23), (some (21, false)), .bin .gtr (.t 22) (.c (.int .i64 5000))⟩,
 ⟨(some 24), none, .pick (.t 21) (.c (.bool true)) (.t 23)⟩] [] false)
(.cond (.t 24)
 (.seq
 (.reg [⟨(some 4), none, .mov (.c (.bool false))⟩] [] false)
 .ret)
 .skip))
(.seq
(.seq
(.reg [⟨(some 25), none, .fad 1 (.t 2)⟩,
 ⟨(some 26), none, .load false 1 (.t 25)⟩,
 ⟨(some 27), none, .len (.t 26)⟩,
 ⟨(some 28), none, .load false 1 (.t 5)⟩,
 ⟨(some 29), none, .bin .neq (.t 27) (.t 28)⟩,
 ⟨(some 30), none, .mov (.t 29)⟩,
 ⟨(some 31), (some (30, false)), .fad 2 (.t 2)⟩,
 ⟨(some 32), (some (30, false)), .load false 1 (.t 31)⟩,
 ⟨(some 33), (some (30, false)), .len (.t 32)⟩,
 ⟨(some 34), (some (30, false)), .load false 1 (.t 5)⟩,
 ⟨(some 35), (some (30, false)), .bin .neq (.t 33) (.t 34)⟩,
 ⟨(some 36), none, .pick (.t 30) (.c (.bool true)) (.t 35)⟩,
 ⟨(some 37), none, .mov (.t 36)⟩,
 ⟨(some 38), (some (37, false)), .fad 3 (.t 2)⟩,
 ⟨(some 39), (some (37, false)), .load false 1 (.t 38)⟩,
 ⟨(some 40), (some (37, false)), .len (.t 39)⟩,
 ⟨(some 41), (some (37, false)), .load false 1 (.t 5)⟩,
 ⟨(some 42), (some (37, false)), .bin .neq (.t 40) (.t 41)⟩,
 ⟨(some 43), none, .pick (.t 37) (.c (.bool true)) (.t 42)⟩,
 ⟨(some 44), none, .mov (.t 43)⟩,
 ⟨(some 45), (some (44, false)), .fad 4 (.t 2)⟩,
 ⟨(some 46), (some (44, false)), .load false 1 (.t 45)⟩,
 ⟨(some 47), (some (44, false)), .len (.t 46)⟩,
 ⟨(some 48), (some (44, false)), .load false 1 (.t 3)⟩,
 ⟨(some 49), (some (44, false)), .bin .mul (.c (.int .i64 2)) (.t 48)⟩,
 ⟨(some 50), (some (44, false)), .bin .add (.t 49) (.c (.int .i64 2))⟩,
 ⟨(some 51), (some (44, false)), .bin .neq (.t 47) (.t 50)⟩,
 ⟨(some 52), none, .pick (.t 44) (.c (.bool true)) (.t 51)⟩] [] false)
(.cond (.t 52)
 (.seq
 (.reg [⟨(some 4), none, .mov (.c (.bool false))⟩] [] false)
 .ret)
 .skip))
(.seq
(.reg [⟨(some 53), none, .mkf 161 [] [(.t 3)]⟩,
 ⟨(some 6), none, .mov (.t 53)⟩] [] false)
(.seq
(.reg [⟨(some 54), none, .mkf 162 [] [(.t 5)]⟩,
 ⟨(some 7), none, .mov (.t 54)⟩] [] false)
(.seq
(.reg [⟨(some 55), none, .fad 2 (.t 2)⟩,
 ⟨(some 56), none, .load false 1 (.t 55)⟩,
 ⟨(some 57), none, .mov (.t 6)⟩,
 ⟨(some 58), none, .call (.c (.fn 112 [] [])) [(.t 56), (.t 57)]⟩,
 ⟨(some 59), none, .un .not (.t 58)⟩,
 ⟨(some 60), none, .mov (.t 59)⟩,
 ⟨(some 61), (some (60, true)), .fad 4 (.t 2)⟩,
 ⟨(some 62), (some (60, true)), .load false 1 (.t 61)⟩,
 ⟨(some 63), (some (60, true)), .mov (.t 7)⟩,
 ⟨(some 64), (some (60, true)), .call (.c (.fn 112 [] [])) [(.t 62), (.t 63)]⟩,
 ⟨(some 65), (some (60, true)), .un .not (.t 64)⟩,
 ⟨(some 66), none, .pick (.t 60) (.t 65) (.c (.bool false))⟩,
 ⟨(some 4), none, .mov (.t 66)⟩] [] false)
.ret)))))))⟩
-- 94 topiary/order.Inverse
def n_order_Inverse : Nat := 94
def af_order_Inverse : AF := ⟨39, [.tmp 2, .tmp 3],
(.seq
(.reg [⟨(some 2), none, .mov (.c (.sl true []))⟩,
 ⟨(some 3), none, .mov (.c (.int .i64 0))⟩] [] false)
(.seq
(.reg [⟨(some 7), none, .bsl 3 1 [(.c (.int .i64 (-1)))]⟩,
 ⟨(some 8), none, .mov (.t 0)⟩,
 ⟨(some 9), none, .len (.t 8)⟩,
 ⟨(some 10), none, .call (.c (.fn 163 [] [])) [(.t 7), (.t 9)]⟩,
 ⟨(some 4), none, .mov (.t 10)⟩] [] false)
(.seq
(.seq
(.reg [⟨(some 11), none, .mov (.t 0)⟩,
 ⟨(some 12), none, .len (.t 11)⟩,
 ⟨(some 13), none, .mov (.c (.int .i64 0))⟩] [] false)
(.block 0
 (.loop
  (.seq
  (.reg [⟨(some 14), none, .bin .lss (.t 13) (.t 12)⟩] [] false)
  (.seq
  (.cond (.t 14)
   .skip
   (.exit 0))
  (.seq
  (.block 1
   (.seq
   (.reg [⟨(some 15), none, .mov (.t 13)⟩,
    ⟨(some 16), none, .idx 1 (.t 11) (.t 13)⟩,
    ⟨(some 17), none, .load false 1 (.t 16)⟩,
    ⟨(some 5), none, .mov (.t 15)⟩,
    ⟨(some 6), none, .mov (.t 17)⟩] [] false)
   (.seq
   (.seq
   (.reg [⟨(some 18), none, .mov (.t 6)⟩,
    ⟨(some 19), none, .bin .lss (.t 18) (.c (.int .i64 0))⟩,
    ⟨(some 20), none, .mov (.t 19)⟩,
    ⟨(some 21), (some (20, false)), .mov (.t 6)⟩,
    ⟨(some 22), (some (20, false)), .mov (.t 0)⟩,
    ⟨(some 23), (some (20, false)), .len (.t 22)⟩,
    ⟨(some 24), (some (20, false)), .bin .geq (.t 21) (.t 23)⟩,
    ⟨(some 25), none, .pick (.t 20) (.c (.bool true)) (.t 24)⟩,
    ⟨(some 26), none, .mov (.t 25)⟩,
    ⟨(some 27), (some (26, false)), .mov (.t 4)⟩,
    ⟨(some 28), (some (26, false)), .mov (.t 6)⟩,
    ⟨(some 29), (some (26, false)), .idx 1 (.t 27) (.t 28)⟩,
    ⟨(some 30), (some (26, false)), .load false 1 (.t 29)⟩,
    ⟨(some 31), (some (26, false)), .bin .geq (.t 30) (.c (.int .i64 0))⟩,
    ⟨(some 32), none, .pick (.t 26) (.c (.bool true)) (.t 31)⟩] [] false)
   (.cond (.t 32)
    (.seq
    (.reg [⟨(some 2), none, .mov (.c (.sl true []))⟩,
     ⟨(some 3), none, .mov (.c (.int .i64 1))⟩] [] false)
    .ret)
    .skip))
   (.reg [⟨(some 33), none, .mov (.t 4)⟩,
    ⟨(some 34), none, .mov (.t 6)⟩,
    ⟨(some 35), none, .mov (.t 5)⟩,
    ⟨(some 36), none, .idx 1 (.t 33) (.t 34)⟩,
    ⟨none, none, .store 1 (.t 36) (.t 35)⟩] [] false))))
  (.reg [⟨(some 37), none, .bin .add (.t 13) (.c (.int .i64 1))⟩,
   ⟨(some 13), none, .mov (.t 37)⟩] [] false)))))))
(.seq
(.reg [⟨(some 38), none, .mov (.t 4)⟩,
 ⟨(some 2), none, .mov (.t 38)⟩,
 ⟨(some 3), none, .mov (.c (.int .i64 0))⟩] [] false)
.ret))))⟩
-- 95 slices.IsSorted[[]int,int]
def n_slices_IsSorted_int : Nat := 95
def af_slices_IsSorted_int : AF := ⟨21, [.tmp 2],
(.seq
(.reg [⟨(some 2), none, .mov (.c (.bool false))⟩] [] false)
(.seq
(.seq
(.reg [⟨(some 4), none, .mov (.t 0)⟩,
 ⟨(some 5), none, .len (.t 4)⟩,
 ⟨(some 6), none, .bin .sub (.t 5) (.c (.int .i64 1))⟩,
 ⟨(some 3), none, .mov (.t 6)⟩] [] false)
(.block 0
 (.loop
  (.seq
  (.seq
  (.reg [⟨(some 7), none, .mov (.t 3)⟩,
   ⟨(some 8), none, .bin .gtr (.t 7) (.c (.int .i64 0))⟩] [] false)
  (.cond (.t 8)
   .skip
   (.exit 0)))
  (.seq
  (.block 1
   (.seq
   (.reg [⟨(some 11), none, .mov (.t 0)⟩,
    ⟨(some 12), none, .mov (.t 3)⟩,
    ⟨(some 13), none, .idx 1 (.t 11) (.t 12)⟩,
    ⟨(some 14), none, .load false 1 (.t 13)⟩,
    ⟨(some 15), none, .mov (.t 0)⟩,
    ⟨(some 16), none, .mov (.t 3)⟩,
    ⟨(some 17), none, .bin .sub (.t 16) (.c (.int .i64 1))⟩,
    ⟨(some 18), none, .idx 1 (.t 15) (.t 17)⟩,
    ⟨(some 19), none, .load false 1 (.t 18)⟩,
    ⟨(some 20), none, .call (.c (.fn 164 [] [])) [(.t 14), (.t 19)]⟩] [] false)
   (.cond (.t 20)
    (.seq
    (.reg [⟨(some 2), none, .mov (.c (.bool false))⟩] [] false)
    .ret)
    .skip)))
  (.reg [⟨(some 9), none, .mov (.t 3)⟩,
   ⟨(some 10), none, .bin .sub (.t 9) (.c (.int .i64 1))⟩,
   ⟨(some 3), none, .mov (.t 10)⟩] [] false))))))
(.seq
(.reg [⟨(some 2), none, .mov (.c (.bool true))⟩] [] false)
.ret)))⟩
-- 96 topiary/nav.made
def n_nav_made : Nat := 96
def af_nav_made : AF := ⟨73, [.cell 4 true 19, .tmp 5],
(.seq
(.reg [⟨(some 2), none, .box (.t 0)⟩,
 ⟨(some 4), none, .alc (.agg [(.int .i64 0), (.int .i64 0), (.sl true []), (.int .i64 0), (.sl true []), (.int .i64 0), (.int .i64 0), (.int .i64 0), (.int .i64 0), (.sl true []), (.sl true []), (.int .i64 0), (.int .i64 0), (.int .i64 0), (.sl true []), (.int .i64 0), (.int .i64 0), (.int .i64 0), (.sl true [])])⟩,
 ⟨(some 5), none, .mov (.c (.int .i64 0))⟩] [] false)
(.seq
(.reg [⟨(some 6), none, .mov (.c (.sl true []))⟩] [] false)
(.seq
(.seq
(.reg [⟨(some 13), none, .fad 2 (.t 2)⟩,
 ⟨(some 14), none, .load false 1 (.t 13)⟩,
 ⟨(some 15), none, .len (.t 14)⟩,
 ⟨(some 16), none, .mov (.c (.int .i64 0))⟩] [] false)
(.block 0
 (.loop
  (.seq
  (.reg [⟨(some 17), none, .bin .lss (.t 16) (.t 15)⟩] [] false)
  (.seq
  (.cond (.t 17)
   .skip
   (.exit 0))
  (.seq
  (.block 1
   (.seq
   (.reg [⟨(some 18), none, .mov (.t 16)⟩,
    ⟨(some 19), none, .idx 1 (.t 14) (.t 16)⟩,
    ⟨(some 20), none, .load false 1 (.t 19)⟩,
    ⟨(some 7), none, .mov (.t 18)⟩,
    ⟨(some 8), none, .mov (.t 20)⟩] [] false)
   (.reg [⟨(some 21), none, .mov (.t 6)⟩,
    ⟨(some 22), none, .mov (.t 8)⟩,
    ⟨(some 23), none, .fad 3 (.t 2)⟩,
    ⟨(some 24), none, .load false 1 (.t 23)⟩,
    ⟨(some 25), none, .mov (.t 7)⟩,
    ⟨(some 26), none, .idx 1 (.t 24) (.t 25)⟩,
    ⟨(some 27), none, .load false 1 (.t 26)⟩,
    ⟨(some 28), none, .call (.c (.fn 144 [] [])) [(.t 22), (.t 27)]⟩,
    ⟨(some 29), none, .bsl 3 1 [(.t 28)]⟩,
    ⟨(some 30), none, .app 3 1 8 (.t 21) (.t 29)⟩,
    ⟨(some 6), none, .mov (.t 30)⟩] [] false)))
  (.reg [⟨(some 31), none, .bin .add (.t 16) (.c (.int .i64 1))⟩,
   ⟨(some 16), none, .mov (.t 31)⟩] [] false)))))))
(.seq
(.reg [⟨(some 33), none, .mov (.t 6)⟩,
 ⟨(some 34), none, .fad 4 (.t 2)⟩,
 ⟨(some 35), none, .load false 1 (.t 34)⟩,
 ⟨(some 36), none, .len (.t 35)⟩,
 ⟨(some 37), none, .bin .sub (.t 36) (.c (.int .i64 1))⟩,
 ⟨(some 38), none, .bin .mul (.c (.int .i64 2)) (.t 37)⟩,
 ⟨(some 39), none, .call (.c (.fn 46 [] [])) [(.t 33), (.t 38)]⟩,
 ⟨(some 32), none, .mov (.t 39)⟩,
 ⟨(some 40), none, .ext (.t 32) 0⟩,
 ⟨(some 41), none, .ext (.t 32) 1⟩,
 ⟨(some 9), none, .alc (.agg [(.int .i64 0), (.int .i64 0), (.sl true [])])⟩,
 ⟨none, none, .store 3 (.t 9) (.t 40)⟩,
 ⟨(some 10), none, .mov (.t 41)⟩] [] false)
(.seq
(.seq
(.reg [⟨(some 42), none, .mov (.t 10)⟩,
 ⟨(some 43), none, .bin .neq (.t 42) (.c (.int .i64 0))⟩] [] false)
(.cond (.t 43)
 (.seq
 (.reg [⟨(some 44), none, .build [(.int .i64 0), (.int .i64 0), (.sl true []), (.int .i64 0), (.sl true []), (.int .i64 0), (.int .i64 0), (.int .i64 0), (.int .i64 0), (.sl true []), (.sl true []), (.int .i64 0), (.int .i64 0), (.int .i64 0), (.sl true []), (.int .i64 0), (.int .i64 0), (.int .i64 0), (.sl true [])] []⟩,
  ⟨none, none, .store 19 (.t 4) (.t 44)⟩,
  ⟨(some 5), none, .mov (.c (.int .i64 10))⟩] [] false)
 .ret)
 .skip))
(.seq
(.reg [⟨(some 46), none, .fad 0 (.t 2)⟩,
 ⟨(some 47), none, .load false 1 (.t 46)⟩,
 ⟨(some 48), none, .call (.c (.fn 47 [] [])) [(.t 47)]⟩,
 ⟨(some 45), none, .mov (.t 48)⟩,
 ⟨(some 49), none, .ext (.t 45) 0⟩,
 ⟨(some 50), none, .ext (.t 45) 1⟩,
 ⟨(some 11), none, .alc (.agg [(.int .i64 0), (.int .i64 0), (.int .i64 0), (.sl true [])])⟩,
 ⟨none, none, .store 4 (.t 11) (.t 49)⟩,
 ⟨(some 10), none, .mov (.t 50)⟩] [] false)
(.seq
(.seq
(.reg [⟨(some 51), none, .mov (.t 10)⟩,
 ⟨(some 52), none, .bin .neq (.t 51) (.c (.int .i64 0))⟩] [] false)
(.cond (.t 52)
 (.seq
 (.reg [⟨(some 53), none, .build [(.int .i64 0), (.int .i64 0), (.sl true []), (.int .i64 0), (.sl true []), (.int .i64 0), (.int .i64 0), (.int .i64 0), (.int .i64 0), (.sl true []), (.sl true []), (.int .i64 0), (.int .i64 0), (.int .i64 0), (.sl true []), (.int .i64 0), (.int .i64 0), (.int .i64 0), (.sl true [])] []⟩,
  ⟨none, none, .store 19 (.t 4) (.t 53)⟩,
  ⟨(some 5), none, .mov (.c (.int .i64 10))⟩] [] false)
 .ret)
 .skip))
(.seq
(.reg [⟨(some 55), none, .mov (.t 1)⟩,
 ⟨(some 56), none, .call (.c (.fn 47 [] [])) [(.t 55)]⟩,
 ⟨(some 54), none, .mov (.t 56)⟩,
 ⟨(some 57), none, .ext (.t 54) 0⟩,
 ⟨(some 58), none, .ext (.t 54) 1⟩,
 ⟨(some 12), none, .alc (.agg [(.int .i64 0), (.int .i64 0), (.int .i64 0), (.sl true [])])⟩,
 ⟨none, none, .store 4 (.t 12) (.t 57)⟩,
 ⟨(some 10), none, .mov (.t 58)⟩] [] false)
(.seq
(.seq
(.reg [⟨(some 59), none, .mov (.t 10)⟩,
 ⟨(some 60), none, .bin .neq (.t 59) (.c (.int .i64 0))⟩] [] false)
(.cond (.t 60)
 (.seq
 (.reg [⟨(some 61), none, .build [(.int .i64 0), (.int .i64 0), (.sl true []), (.int .i64 0), (.sl true []), (.int .i64 0), (.int .i64 0), (.int .i64 0), (.int .i64 0), (.sl true []), (.sl true []), (.int .i64 0), (.int .i64 0), (.int .i64 0), (.sl true []), (.int .i64 0), (.int .i64 0), (.int .i64 0), (.sl true [])] []⟩,
  ⟨none, none, .store 19 (.t 4) (.t 61)⟩,
  ⟨(some 5), none, .mov (.c (.int .i64 10))⟩] [] false)
 .ret)
 .skip))
(.seq
(.reg [⟨(some 62), none, .load true 3 (.t 9)⟩,
 ⟨(some 63), none, .fad 1 (.t 2)⟩,
 ⟨(some 64), none, .load false 1 (.t 63)⟩,
 ⟨(some 65), none, .call (.c (.fn 49 [] [])) [(.t 64)]⟩,
 ⟨(some 66), none, .call (.c (.fn 116 [] [])) [(.t 65)]⟩,
 ⟨(some 67), none, .fad 4 (.t 2)⟩,
 ⟨(some 68), none, .load false 1 (.t 67)⟩,
 ⟨(some 69), none, .call (.c (.fn 103 [] [])) [(.t 68)]⟩,
 ⟨(some 70), none, .load true 4 (.t 11)⟩,
 ⟨(some 71), none, .load true 4 (.t 12)⟩,
 ⟨(some 72), none, .build [(.int .i64 0), (.int .i64 0), (.sl true []), (.int .i64 0), (.sl true []), (.int .i64 0), (.int .i64 0), (.int .i64 0), (.int .i64 0), (.sl true []), (.sl true []), (.int .i64 0), (.int .i64 0), (.int .i64 0), (.sl true []), (.int .i64 0), (.int .i64 0), (.int .i64 0), (.sl true [])] [(0, 3, (.t 62)), (3, 7, (.t 66)), (10, 1, (.t 69)), (11, 4, (.t 70)), (15, 4, (.t 71))]⟩,
 ⟨none, none, .store 19 (.t 4) (.t 72)⟩,
 ⟨(some 5), none, .mov (.c (.int .i64 0))⟩] [] true)
.ret))))))))))⟩
-- 97 (topiary/nav.Nav).skeleton
def n_nav_Nav_skeleton : Nat := 97
def af_nav_Nav_skeleton : AF := ⟨87, [.cell 6 true 2, .tmp 7],
(.seq
(.reg [⟨(some 3), none, .box (.t 0)⟩,
 ⟨(some 4), none, .box (.t 1)⟩,
 ⟨(some 6), none, .alc (.agg [(.sl true []), (.sl true [])])⟩,
 ⟨(some 7), none, .mov (.c (.bool false))⟩] [] false)
(.scope
 (.seq
 (.rgv 3 [⟨(some 13), none, .mov (.t 2)⟩,
  ⟨(some 14), none, .at 0 (.mks 9 1 16 (.str ⟨#[]⟩) (.t 13))⟩,
  ⟨(some 15), none, .fad 0 (.t 4)⟩,
  ⟨(some 16), none, .load false 1 (.t 15)⟩,
  ⟨(some 17), none, .len (.t 16)⟩,
  ⟨(some 18), none, .at 1 (.mks 132 4 40 (.agg [(.int .i64 0), (.int .i64 0), (.int .i64 0), (.str ⟨#[]⟩)]) (.t 17))⟩,
  ⟨(some 19), none, .build [(.sl true []), (.sl true [])] [(0, 1, (.t 14)), (1, 1, (.t 18))]⟩,
  ⟨(some 8), none, .at 2 (.alc (.agg [(.sl true []), (.sl true [])]))⟩,
  ⟨none, none, .store 2 (.t 8) (.t 19)⟩] [] true)
 (.seq
 .skip
 (.seq
 (.seq
 (.reg [⟨(some 20), none, .fad 2 (.t 4)⟩,
  ⟨(some 21), none, .load false 1 (.t 20)⟩,
  ⟨(some 22), none, .len (.t 21)⟩,
  ⟨(some 23), none, .mov (.c (.int .i64 0))⟩] [] false)
 (.block 0
  (.loop
   (.seq
   (.reg [⟨(some 24), none, .bin .lss (.t 23) (.t 22)⟩] [] false)
   (.seq
   (.cond (.t 24)
    .skip
    (.exit 0))
   (.seq
   (.block 1
    (.seq
    (.reg [⟨(some 25), none, .mov (.t 23)⟩,
     ⟨(some 26), none, .idx 1 (.t 21) (.t 23)⟩,
     ⟨(some 27), none, .load false 1 (.t 26)⟩,
     ⟨(some 9), none, .mov (.t 25)⟩,
     ⟨(some 10), none, .mov (.t 27)⟩] [] false)
    (.seq
    (.reg [⟨(some 28), none, .fad 0 (.t 4)⟩,
     ⟨(some 29), none, .load false 1 (.t 28)⟩,
     ⟨(some 30), none, .mov (.t 9)⟩,
     ⟨(some 31), none, .idx 1 (.t 29) (.t 30)⟩,
     ⟨(some 32), none, .load false 1 (.t 31)⟩,
     ⟨(some 11), none, .mov (.t 32)⟩] [] false)
    (.seq
    (.reg [⟨(some 33), none, .fad 1 (.t 8)⟩,
     ⟨(some 34), none, .load false 1 (.t 33)⟩,
     ⟨(some 35), none, .mov (.t 11)⟩,
     ⟨(some 36), none, .fad 1 (.t 8)⟩,
     ⟨(some 37), none, .load false 1 (.t 36)⟩,
     ⟨(some 38), none, .mov (.t 11)⟩,
     ⟨(some 39), none, .mov (.t 10)⟩,
     ⟨(some 40), none, .bin .rem (.t 39) (.c (.int .i64 2))⟩,
     ⟨(some 41), none, .bin .add (.c (.int .i64 1)) (.t 40)⟩,
     ⟨(some 42), none, .mov (.t 10)⟩,
     ⟨(some 43), none, .bin .quo (.t 42) (.c (.int .i64 2))⟩,
     ⟨(some 44), none, .idx 4 (.t 34) (.t 35)⟩,
     ⟨(some 45), none, .fad 0 (.t 44)⟩,
     ⟨none, none, .store 1 (.t 45) (.t 41)⟩,
     ⟨(some 46), none, .idx 4 (.t 37) (.t 38)⟩,
     ⟨(some 47), none, .fad 1 (.t 46)⟩,
     ⟨none, none, .store 1 (.t 47) (.t 43)⟩] [((.t 36), (.t 45))] false)
    (.seq
    (.seq
    (.reg [⟨(some 48), none, .mov (.t 10)⟩,
     ⟨(some 49), none, .mov (.t 2)⟩,
     ⟨(some 50), none, .bin .mul (.c (.int .i64 2)) (.t 49)⟩,
     ⟨(some 51), none, .bin .eql (.t 48) (.t 50)⟩] [] false)
    (.cond (.t 51)
     (.reg [⟨(some 52), none, .fad 1 (.t 8)⟩,
      ⟨(some 53), none, .load false 1 (.t 52)⟩,
      ⟨(some 54), none, .mov (.t 11)⟩,
      ⟨(some 55), none, .fad 1 (.t 8)⟩,
      ⟨(some 56), none, .load false 1 (.t 55)⟩,
      ⟨(some 57), none, .mov (.t 11)⟩,
      ⟨(some 58), none, .idx 4 (.t 53) (.t 54)⟩,
      ⟨(some 59), none, .fad 0 (.t 58)⟩,
      ⟨none, none, .store 1 (.t 59) (.c (.int .i64 3))⟩,
      ⟨(some 60), none, .idx 4 (.t 56) (.t 57)⟩,
      ⟨(some 61), none, .fad 1 (.t 60)⟩,
      ⟨none, none, .store 1 (.t 61) (.c (.int .i64 (-1)))⟩] [((.t 55), (.t 59))] false)
     .skip))
    (.seq
    (.seq
    (.reg [⟨(some 62), none, .mov (.t 9)⟩,
     ⟨(some 63), none, .bin .eql (.t 62) (.c (.int .i64 0))⟩] [] false)
    (.cond (.t 63)
     (.seq
     (.reg [⟨(some 64), none, .fad 1 (.t 8)⟩,
      ⟨(some 65), none, .load false 1 (.t 64)⟩,
      ⟨(some 66), none, .mov (.t 11)⟩,
      ⟨(some 67), none, .idx 4 (.t 65) (.t 66)⟩,
      ⟨(some 68), none, .fad 2 (.t 67)⟩,
      ⟨none, none, .store 1 (.t 68) (.c (.int .i64 (-1)))⟩] [] false)
     (.exit 1))
     .skip))
    (.seq
    (.reg [⟨(some 69), none, .load true 19 (.t 3)⟩,
     ⟨(some 70), none, .mov (.t 9)⟩,
     ⟨(some 71), none, .call (.c (.fn 135 [] [])) [(.t 69), (.t 70)]⟩,
     ⟨(some 12), none, .mov (.t 71)⟩] [] false)
    (.seq
    (.seq
    (.reg [⟨(some 72), none, .mov (.t 12)⟩,
     ⟨(some 73), none, .bin .lss (.t 72) (.c (.int .i64 0))⟩] [] false)
    (.cond (.t 73)
     (.seq
     (.reg [⟨(some 74), none, .load true 2 (.t 8)⟩,
      ⟨none, none, .store 2 (.t 6) (.t 74)⟩,
      ⟨(some 7), none, .mov (.c (.bool false))⟩] [] false)
     .ret)
     .skip))
    (.reg [⟨(some 75), none, .fad 1 (.t 8)⟩,
     ⟨(some 76), none, .load false 1 (.t 75)⟩,
     ⟨(some 77), none, .mov (.t 11)⟩,
     ⟨(some 78), none, .fad 0 (.t 4)⟩,
     ⟨(some 79), none, .load false 1 (.t 78)⟩,
     ⟨(some 80), none, .mov (.t 12)⟩,
     ⟨(some 81), none, .idx 1 (.t 79) (.t 80)⟩,
     ⟨(some 82), none, .load false 1 (.t 81)⟩,
     ⟨(some 83), none, .idx 4 (.t 76) (.t 77)⟩,
     ⟨(some 84), none, .fad 2 (.t 83)⟩,
     ⟨none, none, .store 1 (.t 84) (.t 82)⟩] [] false)))))))))
   (.reg [⟨(some 85), none, .bin .add (.t 23) (.c (.int .i64 1))⟩,
    ⟨(some 23), none, .mov (.t 85)⟩] [] false)))))))
 (.seq
 (.reg [⟨(some 86), none, .load true 2 (.t 8)⟩,
  ⟨none, none, .store 2 (.t 6) (.t 86)⟩,
  ⟨(some 7), none, .mov (.c (.bool true))⟩] [] false)
 .ret))))))⟩
-- 98 topiary/xbw.Build
def n_xbw_Build : Nat := 98
def af_xbw_Build : AF := ⟨143, [.cell 2 true 5, .tmp 3],
(.seq
(.reg [⟨(some 1), none, .box (.t 0)⟩,
 ⟨(some 2), none, .alc (.agg [(.sl true []), (.sl true []), (.sl true []), (.sl true []), (.sl true [])])⟩,
 ⟨(some 3), none, .mov (.c (.int .i64 0))⟩] [] false)
(.seq
(.reg [⟨(some 18), none, .fad 1 (.t 1)⟩,
 ⟨(some 19), none, .load false 1 (.t 18)⟩,
 ⟨(some 20), none, .len (.t 19)⟩,
 ⟨(some 4), none, .mov (.t 20)⟩] [] false)
(.seq
(.reg [⟨(some 21), none, .load true 2 (.t 1)⟩,
 ⟨(some 22), none, .call (.c (.fn 165 [] [])) [(.t 21)]⟩,
 ⟨(some 5), none, .mov (.t 22)⟩] [] false)
(.seq
(.reg [⟨(some 23), none, .mkm ⟩,
 ⟨(some 6), none, .mov (.t 23)⟩] [] false)
(.seq
(.reg [⟨(some 24), none, .mov (.t 4)⟩,
 ⟨(some 25), none, .mks 3 1 8 (.int .i64 0) (.t 24)⟩,
 ⟨(some 7), none, .mov (.t 25)⟩] [] false)
(.seq
(.reg [⟨(some 26), none, .mov (.t 4)⟩,
 ⟨(some 27), none, .mks 3 1 8 (.int .i64 0) (.t 26)⟩,
 ⟨(some 8), none, .mov (.t 27)⟩] [] false)
(.seq
(.reg [⟨(some 28), none, .mov (.t 5)⟩,
 ⟨(some 29), none, .bin .add (.t 28) (.c (.int .i64 1))⟩,
 ⟨(some 30), none, .mks 3 1 8 (.int .i64 0) (.t 29)⟩,
 ⟨(some 9), none, .mov (.t 30)⟩] [] false)
(.seq
(.seq
(.reg [⟨(some 31), none, .mov (.t 4)⟩,
 ⟨(some 32), none, .mov (.c (.int .i64 0))⟩] [] false)
(.block 0
 (.loop
  (.seq
  (.reg [⟨(some 33), none, .bin .lss (.t 32) (.t 31)⟩] [] false)
  (.seq
  (.cond (.t 33)
   .skip
   (.exit 0))
  (.seq
  (.block 1
   (.seq
   (.reg [⟨(some 34), none, .mov (.t 32)⟩,
    ⟨(some 10), none, .mov (.t 34)⟩] [] false)
   (.seq
   (.reg [⟨(some 35), none, .mov (.t 7)⟩,
    ⟨(some 36), none, .mov (.t 10)⟩,
    ⟨(some 37), none, .mov (.t 8)⟩,
    ⟨(some 38), none, .mov (.t 10)⟩,
    ⟨(some 39), none, .load true 2 (.t 1)⟩,
    ⟨(some 40), none, .mov (.t 10)⟩,
    ⟨(some 41), none, .call (.c (.fn 166 [] [])) [(.t 39), (.t 40)]⟩,
    ⟨(some 42), none, .load true 2 (.t 1)⟩,
    ⟨(some 43), none, .mov (.t 10)⟩,
    ⟨(some 44), none, .call (.c (.fn 167 [] [])) [(.t 42), (.t 43)]⟩,
    ⟨(some 45), none, .idx 1 (.t 35) (.t 36)⟩,
    ⟨none, none, .store 1 (.t 45) (.t 41)⟩,
    ⟨(some 46), none, .idx 1 (.t 37) (.t 38)⟩,
    ⟨none, none, .store 1 (.t 46) (.t 44)⟩] [] true)
   (.seq
   (.seq
   (.reg [⟨(some 47), none, .mov (.t 8)⟩,
    ⟨(some 48), none, .mov (.t 10)⟩,
    ⟨(some 49), none, .idx 1 (.t 47) (.t 48)⟩,
    ⟨(some 50), none, .load false 1 (.t 49)⟩,
    ⟨(some 51), none, .bin .lss (.t 50) (.c (.int .i64 0))⟩] [] false)
   (.cond (.t 51)
    (.seq
    (.reg [⟨(some 52), none, .build [(.sl true []), (.sl true []), (.sl true []), (.sl true []), (.sl true [])] []⟩,
     ⟨none, none, .store 5 (.t 2) (.t 52)⟩,
     ⟨(some 3), none, .mov (.c (.int .i64 1))⟩] [] false)
    .ret)
    .skip))
   (.seq
   (.reg [⟨(some 53), none, .mov (.t 6)⟩,
    ⟨(some 54), none, .mov (.t 7)⟩,
    ⟨(some 55), none, .mov (.t 10)⟩,
    ⟨(some 56), none, .idx 1 (.t 54) (.t 55)⟩,
    ⟨(some 57), none, .load false 1 (.t 56)⟩,
    ⟨(some 58), none, .mov (.t 10)⟩,
    ⟨none, none, .mup (.t 53) (.t 57) (.t 58)⟩] [] false)
   (.seq
   (.reg [⟨(some 11), none, .mov (.c (.int .i64 0))⟩] [] false)
   (.seq
   (.seq
   (.reg [⟨(some 59), none, .mov (.t 7)⟩,
    ⟨(some 60), none, .mov (.t 10)⟩,
    ⟨(some 61), none, .idx 1 (.t 59) (.t 60)⟩,
    ⟨(some 62), none, .load false 1 (.t 61)⟩,
    ⟨(some 63), none, .bin .geq (.t 62) (.c (.int .i64 0))⟩] [] false)
   (.cond (.t 63)
    (.reg [⟨(some 64), none, .mov (.t 8)⟩,
     ⟨(some 65), none, .mov (.t 7)⟩,
     ⟨(some 66), none, .mov (.t 10)⟩,
     ⟨(some 67), none, .idx 1 (.t 65) (.t 66)⟩,
     ⟨(some 68), none, .load false 1 (.t 67)⟩,
     ⟨(some 69), none, .idx 1 (.t 64) (.t 68)⟩,
     ⟨(some 70), none, .load false 1 (.t 69)⟩,
     ⟨(some 71), none, .bin .add (.t 70) (.c (.int .i64 1))⟩,
     ⟨(some 11), none, .mov (.t 71)⟩] [] false)
    .skip))
   (.reg [⟨(some 72), none, .mov (.t 9)⟩,
    ⟨(some 73), none, .mov (.t 11)⟩,
    ⟨(some 74), none, .idx 1 (.t 72) (.t 73)⟩,
    ⟨(some 75), none, .load false 1 (.t 74)⟩,
    ⟨(some 76), none, .bin .add (.t 75) (.c (.int .i64 1))⟩,
    ⟨(some 77), none, .idx 1 (.t 72) (.t 73)⟩,
    ⟨none, none, .store 1 (.t 77) (.t 76)⟩] [] false))))))))
  (.reg [⟨(some 78), none, .bin .add (.t 32) (.c (.int .i64 1))⟩,
   ⟨(some 32), none, .mov (.t 78)⟩] [] false)))))))
(.seq
(.seq
(.reg [⟨(some 79), none, .mov (.t 5)⟩,
 ⟨(some 80), none, .mov (.c (.int .i64 0))⟩] [] false)
(.block 2
 (.loop
  (.seq
  (.reg [⟨(some 81), none, .bin .lss (.t 80) (.t 79)⟩] [] false)
  (.seq
  (.cond (.t 81)
   .skip
   (.exit 2))
  (.seq
  (.block 3
   (.seq
   (.reg [⟨(some 82), none, .mov (.t 80)⟩,
    ⟨(some 12), none, .mov (.t 82)⟩] [] false)
   (.reg [⟨(some 83), none, .mov (.t 9)⟩,
    ⟨(some 84), none, .mov (.t 12)⟩,
    ⟨(some 85), none, .bin .add (.t 84) (.c (.int .i64 1))⟩,
    ⟨(some 86), none, .idx 1 (.t 83) (.t 85)⟩,
    ⟨(some 87), none, .load false 1 (.t 86)⟩,
    ⟨(some 88), none, .mov (.t 9)⟩,
    ⟨(some 89), none, .mov (.t 12)⟩,
    ⟨(some 90), none, .idx 1 (.t 88) (.t 89)⟩,
    ⟨(some 91), none, .load false 1 (.t 90)⟩,
    ⟨(some 92), none, .bin .add (.t 87) (.t 91)⟩,
    ⟨(some 93), none, .idx 1 (.t 83) (.t 85)⟩,
    ⟨none, none, .store 1 (.t 93) (.t 92)⟩] [] false)))
  (.reg [⟨(some 94), none, .bin .add (.t 80) (.c (.int .i64 1))⟩,
   ⟨(some 80), none, .mov (.t 94)⟩] [] false)))))))
(.seq
(.reg [⟨(some 95), none, .load true 2 (.t 1)⟩,
 ⟨(some 96), none, .call (.c (.fn 168 [] [])) [(.t 95)]⟩,
 ⟨(some 97), none, .mov (.t 9)⟩,
 ⟨(some 98), none, .build [(.sl true []), (.sl true []), (.sl true []), (.sl true []), (.sl true [])] [(0, 1, (.t 96)), (4, 1, (.t 97))]⟩,
 ⟨(some 13), none, .alc (.agg [(.sl true []), (.sl true []), (.sl true []), (.sl true []), (.sl true [])])⟩,
 ⟨none, none, .store 5 (.t 13) (.t 98)⟩] [] false)
(.seq
(.seq
(.reg [⟨(some 99), none, .fad 0 (.t 13)⟩,
 ⟨(some 100), none, .load false 1 (.t 99)⟩,
 ⟨(some 101), none, .len (.t 100)⟩,
 ⟨(some 102), none, .mov (.c (.int .i64 0))⟩] [] false)
(.block 4
 (.loop
  (.seq
  (.reg [⟨(some 103), none, .bin .lss (.t 102) (.t 101)⟩] [] false)
  (.seq
  (.cond (.t 103)
   .skip
   (.exit 4))
  (.seq
  (.block 5
   (.seq
   (.reg [⟨(some 104), none, .idx 1 (.t 100) (.t 102)⟩,
    ⟨(some 105), none, .load false 1 (.t 104)⟩,
    ⟨(some 15), none, .mov (.t 105)⟩] [] false)
   (.seq
   (.reg [⟨(some 107), none, .mov (.t 6)⟩,
    ⟨(some 108), none, .mov (.t 15)⟩,
    ⟨(some 109), none, .mlk (.t 107) (.t 108) true⟩,
    ⟨(some 106), none, .mov (.t 109)⟩,
    ⟨(some 110), none, .ext (.t 106) 0⟩,
    ⟨(some 111), none, .ext (.t 106) 1⟩,
    ⟨(some 16), none, .mov (.t 110)⟩,
    ⟨(some 17), none, .mov (.t 111)⟩] [] false)
   (.seq
   (.reg [⟨(some 112), none, .fad 1 (.t 13)⟩,
    ⟨(some 113), none, .load false 1 (.t 112)⟩,
    ⟨(some 114), none, .mov (.t 6)⟩,
    ⟨(some 115), none, .mov (.t 7)⟩,
    ⟨(some 116), none, .mov (.t 15)⟩,
    ⟨(some 117), none, .idx 1 (.t 115) (.t 116)⟩,
    ⟨(some 118), none, .load false 1 (.t 117)⟩,
    ⟨(some 119), none, .mlk (.t 114) (.t 118) false⟩,
    ⟨(some 120), none, .mov (.t 15)⟩,
    ⟨(some 121), none, .bin .eql (.t 119) (.t 120)⟩,
    ⟨(some 122), none, .bsl 4 1 [(.t 121)]⟩,
    ⟨(some 123), none, .app 4 1 1 (.t 113) (.t 122)⟩,
    ⟨(some 124), none, .fad 1 (.t 13)⟩,
    ⟨none, none, .store 1 (.t 124) (.t 123)⟩] [] true)
   (.seq
   (.reg [⟨(some 125), none, .fad 2 (.t 13)⟩,
    ⟨(some 126), none, .load false 1 (.t 125)⟩,
    ⟨(some 127), none, .mov (.t 8)⟩,
    ⟨(some 128), none, .mov (.t 15)⟩,
    ⟨(some 129), none, .idx 1 (.t 127) (.t 128)⟩,
    ⟨(some 130), none, .load false 1 (.t 129)⟩,
    ⟨(some 131), none, .bsl 3 1 [(.t 130)]⟩,
    ⟨(some 132), none, .app 3 1 8 (.t 126) (.t 131)⟩,
    ⟨(some 133), none, .fad 2 (.t 13)⟩,
    ⟨none, none, .store 1 (.t 133) (.t 132)⟩] [] true)
   (.reg [⟨(some 134), none, .fad 3 (.t 13)⟩,
    ⟨(some 135), none, .load false 1 (.t 134)⟩,
    ⟨(some 136), none, .mov (.t 17)⟩,
    ⟨(some 137), none, .un .not (.t 136)⟩,
    ⟨(some 138), none, .bsl 4 1 [(.t 137)]⟩,
    ⟨(some 139), none, .app 4 1 1 (.t 135) (.t 138)⟩,
    ⟨(some 140), none, .fad 3 (.t 13)⟩,
    ⟨none, none, .store 1 (.t 140) (.t 139)⟩] [] false))))))
  (.reg [⟨(some 141), none, .bin .add (.t 102) (.c (.int .i64 1))⟩,
   ⟨(some 102), none, .mov (.t 141)⟩] [] false)))))))
(.seq
(.reg [⟨(some 142), none, .load true 5 (.t 13)⟩,
 ⟨none, none, .store 5 (.t 2) (.t 142)⟩,
 ⟨(some 3), none, .mov (.c (.int .i64 0))⟩] [] false)
.ret))))))))))))⟩
-- 99 topiary/nav.alike
def n_nav_alike : Nat := 99
def af_nav_alike : AF := ⟨38, [.tmp 4],
(.seq
(.reg [⟨(some 2), none, .box (.t 0)⟩,
 ⟨(some 3), none, .box (.t 1)⟩,
 ⟨(some 4), none, .mov (.c (.bool false))⟩] [] false)
(.seq
(.reg [⟨(some 5), none, .fad 0 (.t 2)⟩,
 ⟨(some 6), none, .load false 1 (.t 5)⟩,
 ⟨(some 7), none, .fad 0 (.t 3)⟩,
 ⟨(some 8), none, .load false 1 (.t 7)⟩,
 ⟨(some 9), none, .call (.c (.fn 169 [] [])) [(.t 6), (.t 8)]⟩,
 ⟨(some 10), none, .mov (.t 9)⟩,
 ⟨(some 11), (some (10, true)), .fad 1 (.t 2)⟩,
 ⟨(some 12), (some (10, true)), .load false 1 (.t 11)⟩,
 ⟨(some 13), (some (10, true)), .fad 1 (.t 3)⟩,
 ⟨(some 14), (some (10, true)), .load false 1 (.t 13)⟩,
 ⟨(some 15), (some (10, true)), .call (.c (.fn 170 [] [])) [(.t 12), (.t 14)]⟩,
 ⟨(some 16), none, .pick (.t 10) (.t 15) (.c (.bool false))⟩,
 ⟨(some 17), none, .mov (.t 16)⟩,
 ⟨(some 18), (some (17, true)), .fad 2 (.t 2)⟩,
 ⟨(some 19), (some (17, true)), .load false 1 (.t 18)⟩,
 ⟨(some 20), (some (17, true)), .fad 2 (.t 3)⟩,
 ⟨(some 21), (some (17, true)), .load false 1 (.t 20)⟩,
 ⟨(some 22), (some (17, true)), .call (.c (.fn 169 [] [])) [(.t 19), (.t 21)]⟩,
 ⟨(some 23), none, .pick (.t 17) (.t 22) (.c (.bool false))⟩,
 ⟨(some 24), none, .mov (.t 23)⟩,
 ⟨(some 25), (some (24, true)), .fad 3 (.t 2)⟩,
 ⟨(some 26), (some (24, true)), .load false 1 (.t 25)⟩,
 ⟨(some 27), (some (24, true)), .fad 3 (.t 3)⟩,
 ⟨(some 28), (some (24, true)), .load false 1 (.t 27)⟩,
 ⟨(some 29), (some (24, true)), .call (.c (.fn 170 [] [])) [(.t 26), (.t 28)]⟩,
 ⟨(some 30), none, .pick (.t 24) (.t 29) (.c (.bool false))⟩,
 ⟨(some 31), none, .mov (.t 30)⟩,
 ⟨(some 32), (some (31, true)), .fad 4 (.t 2)⟩,
 ⟨(some 33), (some (31, true)), .load false 1 (.t 32)⟩,
 ⟨(some 34), (some (31, true)), .fad 4 (.t 3)⟩,
 ⟨(some 35), (some (31, true)), .load false 1 (.t 34)⟩,
 ⟨(some 36), (some (31, true)), .call (.c (.fn 169 [] [])) [(.t 33), (.t 35)]⟩,
 ⟨(some 37), none, .pick (.t 31) (.t 36) (.c (.bool false))⟩,
 ⟨(some 4), none, .mov (.t 37)⟩] [] false)
.ret))⟩
-- 101 (topiary/ints.Ints).Len
def n_ints_Ints_Len : Nat := 101
def af_ints_Ints_Len : AF := ⟨5, [.tmp 2],
(.seq
(.reg [⟨(some 1), none, .box (.t 0)⟩,
 ⟨(some 2), none, .mov (.c (.int .i64 0))⟩] [] false)
(.seq
(.reg [⟨(some 3), none, .fad 0 (.t 1)⟩,
 ⟨(some 4), none, .load false 1 (.t 3)⟩,
 ⟨(some 2), none, .mov (.t 4)⟩] [] false)
.ret))⟩
-- 103 slices.Clone[[]int,int]
def n_slices_Clone_int : Nat := 103
def af_slices_Clone_int : AF := ⟨8, [.tmp 2],
(.seq
(.reg [⟨(some 2), none, .mov (.c (.sl true []))⟩] [] false)
(.seq
(.seq
(.reg [⟨(some 3), none, .mov (.t 0)⟩,
 ⟨(some 4), none, .eqs false (.t 3)⟩] [] false)
(.cond (.t 4)
 (.seq
 (.reg [⟨(some 2), none, .mov (.c (.sl true []))⟩] [] false)
 .ret)
 .skip))
(.seq
(.reg [⟨(some 5), none, .mov (.c .slz)⟩,
 ⟨(some 6), none, .mov (.t 0)⟩,
 ⟨(some 7), none, .app 3 1 8 (.t 5) (.t 6)⟩,
 ⟨(some 2), none, .mov (.t 7)⟩] [] false)
.ret)))⟩
-- 105 topiary/sub.Nodes$1
def n_sub_Nodes_1 : Nat := 105
def af_sub_Nodes_1 : AF := ⟨10, [],
(.reg [⟨(some 4), none, .load false 1 (.t 1)⟩,
 ⟨(some 5), none, .load true 19 (.t 2)⟩,
 ⟨(some 6), none, .mov (.t 0)⟩,
 ⟨(some 7), none, .call (.c (.fn 79 [] [])) [(.t 5), (.t 6)]⟩,
 ⟨(some 8), none, .bsl 3 1 [(.t 7)]⟩,
 ⟨(some 9), none, .app 3 1 8 (.t 4) (.t 8)⟩,
 ⟨none, none, .store 1 (.t 1) (.t 9)⟩] [] true)⟩
-- 106 topiary/sub.ends
def n_sub_ends : Nat := 106
def af_sub_ends : AF := ⟨46, [.tmp 4],
(.seq
(.reg [⟨(some 2), none, .box (.t 0)⟩,
 ⟨(some 4), none, .mov (.c (.sl true []))⟩] [] false)
(.seq
(.seq
(.reg [⟨(some 10), none, .mov (.t 1)⟩,
 ⟨(some 11), none, .len (.t 10)⟩,
 ⟨(some 12), none, .bin .eql (.t 11) (.c (.int .i64 0))⟩] [] false)
(.cond (.t 12)
 (.seq
 (.reg [⟨(some 13), none, .load true 19 (.t 2)⟩,
  ⟨(some 14), none, .call (.c (.fn 26 [] [])) [(.t 13)]⟩,
  ⟨(some 15), none, .mks 3 1 8 (.int .i64 0) (.t 14)⟩,
  ⟨(some 5), none, .mov (.t 15)⟩] [] false)
 (.seq
 (.seq
 (.reg [⟨(some 16), none, .mov (.t 5)⟩,
  ⟨(some 17), none, .len (.t 16)⟩,
  ⟨(some 18), none, .mov (.c (.int .i64 0))⟩] [] false)
 (.block 0
  (.loop
   (.seq
   (.reg [⟨(some 19), none, .bin .lss (.t 18) (.t 17)⟩] [] false)
   (.seq
   (.cond (.t 19)
    .skip
    (.exit 0))
   (.seq
   (.block 1
    (.seq
    (.reg [⟨(some 20), none, .mov (.t 18)⟩,
     ⟨(some 6), none, .mov (.t 20)⟩] [] false)
    (.reg [⟨(some 21), none, .mov (.t 5)⟩,
     ⟨(some 22), none, .mov (.t 6)⟩,
     ⟨(some 23), none, .mov (.t 6)⟩,
     ⟨(some 24), none, .idx 1 (.t 21) (.t 22)⟩,
     ⟨none, none, .store 1 (.t 24) (.t 23)⟩] [] false)))
   (.reg [⟨(some 25), none, .bin .add (.t 18) (.c (.int .i64 1))⟩,
    ⟨(some 18), none, .mov (.t 25)⟩] [] false)))))))
 (.seq
 (.reg [⟨(some 26), none, .mov (.t 5)⟩,
  ⟨(some 4), none, .mov (.t 26)⟩] [] false)
 .ret)))
 .skip))
(.seq
(.reg [⟨(some 27), none, .mov (.t 1)⟩,
 ⟨(some 28), none, .len (.t 27)⟩,
 ⟨(some 29), none, .bin .sub (.t 28) (.c (.int .i64 1))⟩,
 ⟨(some 7), none, .mov (.t 29)⟩] [] false)
(.seq
(.reg [⟨(some 31), none, .load true 19 (.t 2)⟩,
 ⟨(some 32), none, .mov (.t 1)⟩,
 ⟨(some 33), none, .mov (.t 7)⟩,
 ⟨(some 34), none, .slc 1 (.t 32) none (some (.t 33)) none⟩,
 ⟨(some 35), none, .call (.c (.fn 32 [] [])) [(.t 31), (.t 34)]⟩,
 ⟨(some 30), none, .mov (.t 35)⟩,
 ⟨(some 36), none, .ext (.t 30) 0⟩,
 ⟨(some 37), none, .ext (.t 30) 1⟩,
 ⟨(some 8), none, .mov (.t 36)⟩,
 ⟨(some 9), none, .mov (.t 37)⟩] [] false)
(.seq
(.reg [⟨(some 38), none, .load true 19 (.t 2)⟩,
 ⟨(some 39), none, .mov (.t 1)⟩,
 ⟨(some 40), none, .mov (.t 7)⟩,
 ⟨(some 41), none, .idx 1 (.t 39) (.t 40)⟩,
 ⟨(some 42), none, .load false 1 (.t 41)⟩,
 ⟨(some 43), none, .mov (.t 8)⟩,
 ⟨(some 44), none, .mov (.t 9)⟩,
 ⟨(some 45), none, .call (.c (.fn 74 [] [])) [(.t 38), (.t 42), (.t 43), (.t 44)]⟩,
 ⟨(some 4), none, .mov (.t 45)⟩] [] false)
.ret)))))⟩
-- 107 slices.Sort[[]int,int]
def n_slices_Sort_int : Nat := 107
def af_slices_Sort_int : AF := ⟨11, [],
(.seq
(.reg [⟨(some 3), none, .mov (.t 0)⟩,
 ⟨(some 4), none, .len (.t 3)⟩,
 ⟨(some 2), none, .mov (.t 4)⟩] [] false)
(.reg [⟨(some 5), none, .mov (.t 0)⟩,
 ⟨(some 6), none, .mov (.t 2)⟩,
 ⟨(some 7), none, .mov (.t 2)⟩,
 ⟨(some 8), none, .conv .u64 (.t 7)⟩,
 ⟨(some 9), none, .call (.c (.fn 173 [] [])) [(.t 8)]⟩,
 ⟨(some 10), none, .call (.c (.fn 172 [] [])) [(.t 5), (.c (.int .i64 0)), (.t 6), (.t 9)]⟩] [] false))⟩
-- 108 (topiary/ints.Ints).At
def n_ints_Ints_At : Nat := 108
def af_ints_Ints_At : AF := ⟨16, [.tmp 4],
(.seq
(.reg [⟨(some 2), none, .box (.t 0)⟩,
 ⟨(some 4), none, .mov (.c (.int .i64 0))⟩] [] false)
(.seq
(.reg [⟨(some 8), none, .load true 4 (.t 2)⟩,
 ⟨(some 9), none, .mov (.t 1)⟩,
 ⟨(some 10), none, .call (.c (.fn 174 [] [])) [(.t 8), (.t 9)]⟩,
 ⟨(some 7), none, .mov (.t 10)⟩,
 ⟨(some 11), none, .ext (.t 7) 0⟩,
 ⟨(some 12), none, .ext (.t 7) 1⟩,
 ⟨(some 5), none, .mov (.t 11)⟩,
 ⟨(some 6), none, .mov (.t 12)⟩] [] false)
(.seq
(.seq
(.reg [⟨(some 13), none, .mov (.t 6)⟩,
 ⟨(some 14), none, .bin .neq (.t 13) (.c (.int .i64 0))⟩] [] false)
(.cond (.t 14)
 (.seq
 (.reg [⟨(some 4), none, .mov (.c (.int .i64 (-1)))⟩] [] false)
 .ret)
 .skip))
(.seq
(.reg [⟨(some 15), none, .mov (.t 5)⟩,
 ⟨(some 4), none, .mov (.t 15)⟩] [] false)
.ret))))⟩
-- 111 topiary/wave.New$1
def n_wave_New_1 : Nat := 111
def af_wave_New_1 : AF := ⟨11, [.tmp 3],
(.seq
(.reg [⟨(some 3), none, .mov (.c (.bool false))⟩] [] false)
(.seq
(.reg [⟨(some 4), none, .mov (.t 0)⟩,
 ⟨(some 5), none, .bin .lss (.t 4) (.c (.int .i64 0))⟩,
 ⟨(some 6), none, .mov (.t 5)⟩,
 ⟨(some 7), (some (6, false)), .mov (.t 0)⟩,
 ⟨(some 8), (some (6, false)), .load false 1 (.t 1)⟩,
 ⟨(some 9), (some (6, false)), .bin .geq (.t 7) (.t 8)⟩,
 ⟨(some 10), none, .pick (.t 6) (.c (.bool true)) (.t 9)⟩,
 ⟨(some 3), none, .mov (.t 10)⟩] [] false)
.ret))⟩
-- 112 slices.ContainsFunc[[]int,int]
def n_slices_ContainsFunc_int : Nat := 112
def af_slices_ContainsFunc_int : AF := ⟨9, [.tmp 4],
(.seq
(.reg [⟨(some 4), none, .mov (.c (.bool false))⟩] [] false)
(.seq
(.reg [⟨(some 5), none, .mov (.t 0)⟩,
 ⟨(some 6), none, .mov (.t 1)⟩,
 ⟨(some 7), none, .call (.c (.fn 177 [] [])) [(.t 5), (.t 6)]⟩,
 ⟨(some 8), none, .bin .geq (.t 7) (.c (.int .i64 0))⟩,
 ⟨(some 4), none, .mov (.t 8)⟩] [] false)
.ret))⟩
-- 113 topiary/wave.width
def n_wave_width : Nat := 113
def af_wave_width : AF := ⟨6, [.tmp 2],
(.seq
(.reg [⟨(some 2), none, .mov (.c (.int .i64 0))⟩] [] false)
(.seq
(.reg [⟨(some 3), none, .mov (.t 0)⟩,
 ⟨(some 4), none, .bin .sub (.t 3) (.c (.int .i64 1))⟩,
 ⟨(some 5), none, .call (.c (.fn 120 [] [])) [(.t 4)]⟩,
 ⟨(some 2), none, .mov (.t 5)⟩] [] false)
.ret))⟩
-- 114 topiary/bits.New
def n_bits_New : Nat := 114
def af_bits_New : AF := ⟨3, [.tmp 0],
(.seq
(.reg [⟨(some 0), none, .mov (.c .nilp)⟩] [] false)
(.seq
(.reg [⟨(some 1), none, .build [(.int .i64 0), (.sl true [])] []⟩,
 ⟨(some 2), none, .box (.t 1)⟩,
 ⟨(some 0), none, .mov (.t 2)⟩] [] false)
.ret))⟩
-- 115 (*topiary/bits.Builder).Add
def n_bits_Builder_Add : Nat := 115
def af_bits_Builder_Add : AF := ⟨53, [.tmp 4],
(.seq
(.reg [⟨(some 4), none, .mov (.c (.int .i64 0))⟩] [] false)
(.seq
(.seq
(.reg [⟨(some 5), none, .mov (.t 0)⟩,
 ⟨(some 6), none, .eqn false (.t 5)⟩] [] false)
(.cond (.t 6)
 (.seq
 (.reg [⟨(some 4), none, .mov (.c (.int .i64 0))⟩] [] false)
 .ret)
 .skip))
(.seq
(.seq
(.reg [⟨(some 7), none, .mov (.t 0)⟩,
 ⟨(some 8), none, .nck (.t 7)⟩,
 ⟨(some 9), none, .fad 0 (.t 8)⟩,
 ⟨(some 10), none, .load false 1 (.t 9)⟩,
 ⟨(some 11), none, .bin .rem (.t 10) (.c (.int .i64 64))⟩,
 ⟨(some 12), none, .bin .eql (.t 11) (.c (.int .i64 0))⟩] [] false)
(.cond (.t 12)
 (.reg [⟨(some 13), none, .mov (.t 0)⟩,
  ⟨(some 14), none, .mov (.t 0)⟩,
  ⟨(some 15), none, .nck (.t 14)⟩,
  ⟨(some 16), none, .fad 1 (.t 15)⟩,
  ⟨(some 17), none, .load false 1 (.t 16)⟩,
  ⟨(some 18), none, .bsl 201 1 [(.c (.int .u64 0))]⟩,
  ⟨(some 19), none, .app 201 1 8 (.t 17) (.t 18)⟩,
  ⟨(some 20), none, .nck (.t 13)⟩,
  ⟨(some 21), none, .fad 1 (.t 20)⟩,
  ⟨none, none, .store 1 (.t 21) (.t 19)⟩] [] false)
 .skip))
(.seq
(.seq
(.reg [⟨(some 22), none, .mov (.t 1)⟩] [] false)
(.cond (.t 22)
 (.reg [⟨(some 23), none, .mov (.t 0)⟩,
  ⟨(some 24), none, .nck (.t 23)⟩,
  ⟨(some 25), none, .fad 1 (.t 24)⟩,
  ⟨(some 26), none, .load false 1 (.t 25)⟩,
  ⟨(some 27), none, .mov (.t 0)⟩,
  ⟨(some 28), none, .nck (.t 27)⟩,
  ⟨(some 29), none, .fad 0 (.t 28)⟩,
  ⟨(some 30), none, .load false 1 (.t 29)⟩,
  ⟨(some 31), none, .bin .quo (.t 30) (.c (.int .i64 64))⟩,
  ⟨(some 32), none, .idx 1 (.t 26) (.t 31)⟩,
  ⟨(some 33), none, .load false 1 (.t 32)⟩,
  ⟨(some 34), none, .mov (.t 0)⟩,
  ⟨(some 35), none, .nck (.t 34)⟩,
  ⟨(some 36), none, .fad 0 (.t 35)⟩,
  ⟨(some 37), none, .load false 1 (.t 36)⟩,
  ⟨(some 38), none, .bin .rem (.t 37) (.c (.int .i64 64))⟩,
  ⟨(some 39), none, .bin .shl (.c (.int .u64 1)) (.t 38)⟩,
  ⟨(some 40), none, .bin .or (.t 33) (.t 39)⟩,
  ⟨(some 41), none, .idx 1 (.t 26) (.t 31)⟩,
  ⟨none, none, .store 1 (.t 41) (.t 40)⟩] [] false)
 .skip))
(.seq
(.reg [⟨(some 42), none, .mov (.t 0)⟩,
 ⟨(some 43), none, .nck (.t 42)⟩,
 ⟨(some 44), none, .fad 0 (.t 43)⟩,
 ⟨(some 45), none, .load false 1 (.t 44)⟩,
 ⟨(some 46), none, .bin .add (.t 45) (.c (.int .i64 1))⟩,
 ⟨(some 47), none, .nck (.t 42)⟩,
 ⟨(some 48), none, .fad 0 (.t 47)⟩,
 ⟨none, none, .store 1 (.t 48) (.t 46)⟩] [] false)
(.seq
(.reg [⟨(some 49), none, .mov (.t 0)⟩,
 ⟨(some 50), none, .nck (.t 49)⟩,
 ⟨(some 51), none, .fad 0 (.t 50)⟩,
 ⟨(some 52), none, .load false 1 (.t 51)⟩,
 ⟨(some 4), none, .mov (.t 52)⟩] [] false)
.ret))))))⟩
-- 116 topiary/rank.New
def n_rank_New : Nat := 116
def af_rank_New : AF := ⟨37, [.cell 2 true 7],
(.seq
(.reg [⟨(some 1), none, .box (.t 0)⟩,
 ⟨(some 2), none, .alc (.agg [(.int .i64 0), (.sl true []), (.int .i64 0), (.int .i64 0), (.int .i64 0), (.int .i64 0), (.sl true [])])⟩] [] false)
(.seq
(.reg [⟨(some 3), none, .mov (.c (.sl true []))⟩] [] false)
(.seq
(.reg [⟨(some 4), none, .mov (.c (.int .i64 0))⟩] [] false)
(.seq
(.seq
(.reg [⟨(some 5), none, .mov (.c (.int .i64 0))⟩] [] false)
(.block 0
 (.loop
  (.seq
  (.seq
  (.reg [⟨(some 8), none, .mov (.t 5)⟩,
   ⟨(some 9), none, .load true 2 (.t 1)⟩,
   ⟨(some 10), none, .call (.c (.fn 178 [] [])) [(.t 9)]⟩,
   ⟨(some 11), none, .bin .lss (.t 8) (.t 10)⟩] [] false)
  (.cond (.t 11)
   .skip
   (.exit 0)))
  (.seq
  (.block 1
   (.seq
   (.reg [⟨(some 14), none, .mov (.t 3)⟩,
    ⟨(some 15), none, .mov (.t 4)⟩,
    ⟨(some 16), none, .bsl 3 1 [(.t 15)]⟩,
    ⟨(some 17), none, .app 3 1 8 (.t 14) (.t 16)⟩,
    ⟨(some 3), none, .mov (.t 17)⟩] [] false)
   (.reg [⟨(some 18), none, .mov (.t 4)⟩,
    ⟨(some 19), none, .load true 2 (.t 1)⟩,
    ⟨(some 20), none, .mov (.t 5)⟩,
    ⟨(some 21), none, .mov (.t 5)⟩,
    ⟨(some 22), none, .bin .add (.t 21) (.c (.int .i64 256))⟩,
    ⟨(some 23), none, .call (.c (.fn 179 [] [])) [(.t 19), (.t 20), (.t 22)]⟩,
    ⟨(some 24), none, .bin .add (.t 18) (.t 23)⟩,
    ⟨(some 4), none, .mov (.t 24)⟩] [] false)))
  (.reg [⟨(some 12), none, .mov (.t 5)⟩,
   ⟨(some 13), none, .bin .add (.t 12) (.c (.int .i64 256))⟩,
   ⟨(some 5), none, .mov (.t 13)⟩] [] false))))))
(.seq
(.reg [⟨(some 26), none, .mov (.t 3)⟩,
 ⟨(some 27), none, .call (.c (.fn 47 [] [])) [(.t 26)]⟩,
 ⟨(some 25), none, .mov (.t 27)⟩,
 ⟨(some 28), none, .ext (.t 25) 0⟩,
 ⟨(some 29), none, .ext (.t 25) 1⟩,
 ⟨(some 6), none, .alc (.agg [(.int .i64 0), (.int .i64 0), (.int .i64 0), (.sl true [])])⟩,
 ⟨none, none, .store 4 (.t 6) (.t 28)⟩,
 ⟨(some 7), none, .mov (.t 29)⟩] [] false)
(.seq
(.seq
(.reg [⟨(some 30), none, .mov (.t 7)⟩,
 ⟨(some 31), none, .bin .neq (.t 30) (.c (.int .i64 0))⟩] [] false)
(.cond (.t 31)
 (.seq
 (.reg [⟨(some 32), none, .build [(.int .i64 0), (.sl true []), (.int .i64 0), (.int .i64 0), (.int .i64 0), (.int .i64 0), (.sl true [])] []⟩,
  ⟨none, none, .store 7 (.t 2) (.t 32)⟩] [] false)
 .ret)
 .skip))
(.seq
(.reg [⟨(some 33), none, .load true 2 (.t 1)⟩,
 ⟨(some 34), none, .mov (.t 4)⟩,
 ⟨(some 35), none, .load true 4 (.t 6)⟩,
 ⟨(some 36), none, .build [(.int .i64 0), (.sl true []), (.int .i64 0), (.int .i64 0), (.int .i64 0), (.int .i64 0), (.sl true [])] [(0, 2, (.t 33)), (2, 1, (.t 34)), (3, 4, (.t 35))]⟩,
 ⟨none, none, .store 7 (.t 2) (.t 36)⟩] [] false)
.ret)))))))⟩
-- 117 (*topiary/bits.Builder).Bits
def n_bits_Builder_Bits : Nat := 117
def af_bits_Builder_Bits : AF := ⟨25, [.cell 2 true 2],
(.seq
(.reg [⟨(some 2), none, .alc (.agg [(.int .i64 0), (.sl true [])])⟩] [] false)
(.seq
(.seq
(.reg [⟨(some 4), none, .mov (.t 0)⟩,
 ⟨(some 5), none, .eqn false (.t 4)⟩] [] false)
(.cond (.t 5)
 (.seq
 (.reg [⟨(some 6), none, .build [(.int .i64 0), (.sl true [])] []⟩,
  ⟨none, none, .store 2 (.t 2) (.t 6)⟩] [] false)
 .ret)
 .skip))
(.seq
(.reg [⟨(some 7), none, .mov (.t 0)⟩,
 ⟨(some 8), none, .nck (.t 7)⟩,
 ⟨(some 9), none, .fad 1 (.t 8)⟩,
 ⟨(some 10), none, .load false 1 (.t 9)⟩,
 ⟨(some 11), none, .len (.t 10)⟩,
 ⟨(some 12), none, .mks 201 1 8 (.int .u64 0) (.t 11)⟩,
 ⟨(some 3), none, .mov (.t 12)⟩] [] false)
(.seq
(.reg [⟨(some 13), none, .mov (.t 3)⟩,
 ⟨(some 14), none, .mov (.t 0)⟩,
 ⟨(some 15), none, .nck (.t 14)⟩,
 ⟨(some 16), none, .fad 1 (.t 15)⟩,
 ⟨(some 17), none, .load false 1 (.t 16)⟩,
 ⟨(some 18), none, .cpy 201 1 (.t 13) (.t 17)⟩] [] false)
(.seq
(.reg [⟨(some 19), none, .mov (.t 0)⟩,
 ⟨(some 20), none, .nck (.t 19)⟩,
 ⟨(some 21), none, .fad 0 (.t 20)⟩,
 ⟨(some 22), none, .load false 1 (.t 21)⟩,
 ⟨(some 23), none, .mov (.t 3)⟩,
 ⟨(some 24), none, .build [(.int .i64 0), (.sl true [])] [(0, 1, (.t 22)), (1, 1, (.t 23))]⟩,
 ⟨none, none, .store 2 (.t 2) (.t 24)⟩] [] false)
.ret)))))⟩
-- 118 topiary/wave.parted
def n_wave_parted : Nat := 118
def af_wave_parted : AF := ⟨12, [.tmp 4],
(.seq
(.reg [⟨(some 3), none, .box (.t 1)⟩,
 ⟨(some 4), none, .mov (.c (.sl true []))⟩] [] false)
(.seq
(.reg [⟨(some 6), none, .mov (.t 0)⟩,
 ⟨(some 7), none, .call (.c (.fn 103 [] [])) [(.t 6)]⟩,
 ⟨(some 5), none, .mov (.t 7)⟩] [] false)
(.seq
(.reg [⟨(some 8), none, .mov (.t 5)⟩,
 ⟨(some 9), none, .mkf 181 [] [(.t 3)]⟩,
 ⟨(some 10), none, .call (.c (.fn 180 [] [])) [(.t 8), (.t 9)]⟩] [] false)
(.seq
(.reg [⟨(some 11), none, .mov (.t 5)⟩,
 ⟨(some 4), none, .mov (.t 11)⟩] [] false)
.ret))))⟩
-- 119 topiary/ints.Pack
def n_ints_Pack : Nat := 119
def af_ints_Pack : AF := ⟨42, [.cell 4 true 4, .tmp 5],
(.seq
(.reg [⟨(some 3), none, .box (.t 1)⟩,
 ⟨(some 4), none, .alc (.agg [(.int .i64 0), (.int .i64 0), (.int .i64 0), (.sl true [])])⟩,
 ⟨(some 5), none, .mov (.c (.int .i64 0))⟩] [] false)
(.seq
(.reg [⟨(some 10), none, .mkf 182 [] [(.t 3)]⟩,
 ⟨(some 6), none, .mov (.t 10)⟩] [] false)
(.seq
(.seq
(.reg [⟨(some 11), none, .load false 1 (.t 3)⟩,
 ⟨(some 12), none, .bin .lss (.t 11) (.c (.int .i64 0))⟩,
 ⟨(some 13), none, .mov (.t 12)⟩,
 ⟨(some 14), (some (13, false)), .load false 1 (.t 3)⟩,
 ⟨(some 15), (some (13, false)), .bin .gtr (.t 14) (.c (.int .i64 62))⟩,
 ⟨(some 16), none, .pick (.t 13) (.c (.bool true)) (.t 15)⟩,
 ⟨(some 17), none, .mov (.t 16)⟩,
 ⟨(some 18), (some (17, false)), .mov (.t 0)⟩,
 ⟨(some 19), (some (17, false)), .mov (.t 6)⟩,
 ⟨(some 20), (some (17, false)), .call (.c (.fn 112 [] [])) [(.t 18), (.t 19)]⟩,
 ⟨(some 21), none, .pick (.t 17) (.c (.bool true)) (.t 20)⟩] [] false)
(.cond (.t 21)
 (.seq
 (.reg [⟨(some 22), none, .build [(.int .i64 0), (.int .i64 0), (.int .i64 0), (.sl true [])] []⟩,
  ⟨none, none, .store 4 (.t 4) (.t 22)⟩,
  ⟨(some 5), none, .mov (.c (.int .i64 1))⟩] [] false)
 .ret)
 .skip))
(.seq
(.reg [⟨(some 23), none, .call (.c (.fn 114 [] [])) []⟩,
 ⟨(some 7), none, .mov (.t 23)⟩] [] false)
(.seq
(.seq
(.reg [⟨(some 24), none, .mov (.t 0)⟩,
 ⟨(some 25), none, .len (.t 24)⟩,
 ⟨(some 26), none, .mov (.c (.int .i64 0))⟩] [] false)
(.block 0
 (.loop
  (.seq
  (.reg [⟨(some 27), none, .bin .lss (.t 26) (.t 25)⟩] [] false)
  (.seq
  (.cond (.t 27)
   .skip
   (.exit 0))
  (.seq
  (.block 1
   (.seq
   (.reg [⟨(some 28), none, .idx 1 (.t 24) (.t 26)⟩,
    ⟨(some 29), none, .load false 1 (.t 28)⟩,
    ⟨(some 9), none, .mov (.t 29)⟩] [] false)
   (.reg [⟨(some 30), none, .mov (.t 7)⟩,
    ⟨(some 31), none, .mov (.t 9)⟩,
    ⟨(some 32), none, .conv .u64 (.t 31)⟩,
    ⟨(some 33), none, .load false 1 (.t 3)⟩,
    ⟨(some 34), none, .call (.c (.fn 183 [] [])) [(.t 30), (.t 32), (.t 33)]⟩] [] false)))
  (.reg [⟨(some 35), none, .bin .add (.t 26) (.c (.int .i64 1))⟩,
   ⟨(some 26), none, .mov (.t 35)⟩] [] false)))))))
(.seq
(.reg [⟨(some 36), none, .mov (.t 0)⟩,
 ⟨(some 37), none, .len (.t 36)⟩,
 ⟨(some 38), none, .load false 1 (.t 3)⟩,
 ⟨(some 39), none, .mov (.t 7)⟩,
 ⟨(some 40), none, .call (.c (.fn 117 [] [])) [(.t 39)]⟩,
 ⟨(some 41), none, .build [(.int .i64 0), (.int .i64 0), (.int .i64 0), (.sl true [])] [(0, 1, (.t 37)), (1, 1, (.t 38)), (2, 2, (.t 40))]⟩,
 ⟨none, none, .store 4 (.t 4) (.t 41)⟩,
 ⟨(some 5), none, .mov (.c (.int .i64 0))⟩] [] true)
.ret))))))⟩
-- 120 topiary/ints.Width
def n_ints_Width : Nat := 120
def af_ints_Width : AF := ⟨11, [.tmp 2],
(.seq
(.reg [⟨(some 2), none, .mov (.c (.int .i64 0))⟩] [] false)
(.seq
(.reg [⟨(some 3), none, .mov (.c (.int .i64 0))⟩] [] false)
(.seq
(.block 0
 (.loop
  (.seq
  (.seq
  (.reg [⟨(some 4), none, .mov (.t 0)⟩,
   ⟨(some 5), none, .bin .gtr (.t 4) (.c (.int .i64 0))⟩] [] false)
  (.cond (.t 5)
   .skip
   (.exit 0)))
  (.seq
  (.block 1
   (.reg [⟨(some 8), none, .mov (.t 3)⟩,
    ⟨(some 9), none, .bin .add (.t 8) (.c (.int .i64 1))⟩,
    ⟨(some 3), none, .mov (.t 9)⟩] [] false))
  (.reg [⟨(some 6), none, .mov (.t 0)⟩,
   ⟨(some 7), none, .bin .quo (.t 6) (.c (.int .i64 2))⟩,
   ⟨(some 0), none, .mov (.t 7)⟩] [] false)))))
(.seq
(.reg [⟨(some 10), none, .mov (.t 3)⟩,
 ⟨(some 2), none, .mov (.t 10)⟩] [] false)
.ret))))⟩
-- 127 (topiary/wave.Wave).At
def n_wave_Wave_At : Nat := 127
def af_wave_Wave_At : AF := ⟨16, [.tmp 4],
(.seq
(.reg [⟨(some 2), none, .box (.t 0)⟩,
 ⟨(some 4), none, .mov (.c (.int .i64 0))⟩] [] false)
(.seq
(.reg [⟨(some 8), none, .load true 3 (.t 2)⟩,
 ⟨(some 9), none, .mov (.t 1)⟩,
 ⟨(some 10), none, .call (.c (.fn 189 [] [])) [(.t 8), (.t 9)]⟩,
 ⟨(some 7), none, .mov (.t 10)⟩,
 ⟨(some 11), none, .ext (.t 7) 0⟩,
 ⟨(some 12), none, .ext (.t 7) 1⟩,
 ⟨(some 5), none, .mov (.t 11)⟩,
 ⟨(some 6), none, .mov (.t 12)⟩] [] false)
(.seq
(.seq
(.reg [⟨(some 13), none, .mov (.t 6)⟩,
 ⟨(some 14), none, .bin .neq (.t 13) (.c (.int .i64 0))⟩] [] false)
(.cond (.t 14)
 (.seq
 (.reg [⟨(some 4), none, .mov (.c (.int .i64 (-1)))⟩] [] false)
 .ret)
 .skip))
(.seq
(.reg [⟨(some 15), none, .mov (.t 5)⟩,
 ⟨(some 4), none, .mov (.t 15)⟩] [] false)
.ret))))⟩
-- 134 (topiary/bits.Bits).One
def n_bits_Bits_One : Nat := 134
def af_bits_Bits_One : AF := ⟨24, [.tmp 4],
(.seq
(.reg [⟨(some 2), none, .box (.t 0)⟩,
 ⟨(some 4), none, .mov (.c (.int .i64 0))⟩] [] false)
(.seq
(.seq
(.reg [⟨(some 5), none, .mov (.t 1)⟩,
 ⟨(some 6), none, .bin .lss (.t 5) (.c (.int .i64 0))⟩,
 ⟨(some 7), none, .mov (.t 6)⟩,
 ⟨(some 8), (some (7, false)), .mov (.t 1)⟩,
 ⟨(some 9), (some (7, false)), .fad 0 (.t 2)⟩,
 ⟨(some 10), (some (7, false)), .load false 1 (.t 9)⟩,
 ⟨(some 11), (some (7, false)), .bin .geq (.t 8) (.t 10)⟩,
 ⟨(some 12), none, .pick (.t 7) (.c (.bool true)) (.t 11)⟩] [] false)
(.cond (.t 12)
 (.seq
 (.reg [⟨(some 4), none, .mov (.c (.int .i64 0))⟩] [] false)
 .ret)
 .skip))
(.seq
(.reg [⟨(some 13), none, .fad 1 (.t 2)⟩,
 ⟨(some 14), none, .load false 1 (.t 13)⟩,
 ⟨(some 15), none, .mov (.t 1)⟩,
 ⟨(some 16), none, .bin .quo (.t 15) (.c (.int .i64 64))⟩,
 ⟨(some 17), none, .idx 1 (.t 14) (.t 16)⟩,
 ⟨(some 18), none, .load false 1 (.t 17)⟩,
 ⟨(some 19), none, .mov (.t 1)⟩,
 ⟨(some 20), none, .bin .rem (.t 19) (.c (.int .i64 64))⟩,
 ⟨(some 21), none, .bin .shr (.t 18) (.t 20)⟩,
 ⟨(some 22), none, .bin .and (.t 21) (.c (.int .u64 1))⟩,
 ⟨(some 23), none, .conv .i64 (.t 22)⟩,
 ⟨(some 4), none, .mov (.t 23)⟩] [] false)
.ret)))⟩
-- 135 (topiary/nav.Nav).above
def n_nav_Nav_above : Nat := 135
def af_nav_Nav_above : AF := ⟨34, [.tmp 4],
(.seq
(.reg [⟨(some 2), none, .box (.t 0)⟩,
 ⟨(some 3), none, .box (.t 1)⟩,
 ⟨(some 4), none, .mov (.c (.int .i64 0))⟩] [] false)
(.seq
(.seq
(.reg [⟨(some 6), none, .load false 1 (.t 3)⟩,
 ⟨(some 7), none, .load true 19 (.t 2)⟩,
 ⟨(some 8), none, .call (.c (.fn 75 [] [])) [(.t 7), (.c (.int .i64 0))]⟩,
 ⟨(some 9), none, .bin .lss (.t 6) (.t 8)⟩] [] true)
(.cond (.t 9)
 (.seq
 (.reg [⟨(some 4), none, .mov (.c (.int .i64 (-1)))⟩] [] false)
 .ret)
 .skip))
(.seq
(.reg [⟨(some 10), none, .load true 19 (.t 2)⟩,
 ⟨(some 11), none, .call (.c (.fn 42 [] [])) [(.t 10)]⟩,
 ⟨(some 12), none, .mkf 192 [] [(.t 2), (.t 3)]⟩,
 ⟨(some 13), none, .call (.c (.fn 191 [] [])) [(.t 11), (.t 12)]⟩,
 ⟨(some 5), none, .mov (.t 13)⟩] [] false)
(.seq
(.seq
(.reg [⟨(some 14), none, .load true 19 (.t 2)⟩,
 ⟨(some 15), none, .mov (.t 5)⟩,
 ⟨(some 16), none, .call (.c (.fn 138 [] [])) [(.t 14), (.t 15)]⟩,
 ⟨(some 17), none, .un .not (.t 16)⟩] [] false)
(.cond (.t 17)
 (.seq
 (.reg [⟨(some 4), none, .mov (.c (.int .i64 (-1)))⟩] [] false)
 .ret)
 .skip))
(.seq
(.reg [⟨(some 18), none, .fad 0 (.t 2)⟩,
 ⟨(some 19), none, .load true 3 (.t 18)⟩,
 ⟨(some 20), none, .mov (.t 5)⟩,
 ⟨(some 21), none, .call (.c (.fn 144 [] [])) [(.t 20), (.c (.bool false))]⟩,
 ⟨(some 22), none, .fad 3 (.t 2)⟩,
 ⟨(some 23), none, .load true 7 (.t 22)⟩,
 ⟨(some 24), none, .load false 1 (.t 3)⟩,
 ⟨(some 25), none, .call (.c (.fn 136 [] [])) [(.t 23), (.t 24)]⟩,
 ⟨(some 26), none, .fad 3 (.t 2)⟩,
 ⟨(some 27), none, .load true 7 (.t 26)⟩,
 ⟨(some 28), none, .load true 19 (.t 2)⟩,
 ⟨(some 29), none, .mov (.t 5)⟩,
 ⟨(some 30), none, .call (.c (.fn 75 [] [])) [(.t 28), (.t 29)]⟩,
 ⟨(some 31), none, .call (.c (.fn 136 [] [])) [(.t 27), (.t 30)]⟩,
 ⟨(some 32), none, .bin .sub (.t 25) (.t 31)⟩,
 ⟨(some 33), none, .call (.c (.fn 142 [] [])) [(.t 19), (.t 21), (.t 32)]⟩,
 ⟨(some 4), none, .mov (.t 33)⟩] [] true)
.ret)))))⟩
-- 136 (topiary/rank.Rank).Rank1
def n_rank_Rank_Rank1 : Nat := 136
def af_rank_Rank_Rank1 : AF := ⟨55, [.tmp 4],
(.seq
(.reg [⟨(some 2), none, .box (.t 0)⟩,
 ⟨(some 4), none, .mov (.c (.int .i64 0))⟩] [] false)
(.seq
(.reg [⟨(some 10), none, .mov (.t 1)⟩,
 ⟨(some 11), none, .mx (.t 10) [(.c (.int .i64 0))]⟩,
 ⟨(some 12), none, .load true 7 (.t 2)⟩,
 ⟨(some 13), none, .call (.c (.fn 193 [] [])) [(.t 12)]⟩,
 ⟨(some 14), none, .mn (.t 11) [(.t 13)]⟩,
 ⟨(some 1), none, .mov (.t 14)⟩] [] false)
(.seq
(.reg [⟨(some 15), none, .mov (.t 1)⟩,
 ⟨(some 16), none, .bin .quo (.t 15) (.c (.int .i64 256))⟩,
 ⟨(some 5), none, .mov (.t 16)⟩] [] false)
(.seq
(.seq
(.reg [⟨(some 17), none, .mov (.t 5)⟩,
 ⟨(some 18), none, .fad 3 (.t 2)⟩,
 ⟨(some 19), none, .load true 4 (.t 18)⟩,
 ⟨(some 20), none, .call (.c (.fn 101 [] [])) [(.t 19)]⟩,
 ⟨(some 21), none, .bin .geq (.t 17) (.t 20)⟩] [] false)
(.cond (.t 21)
 (.seq
 (.reg [⟨(some 22), none, .fad 2 (.t 2)⟩,
  ⟨(some 23), none, .load false 1 (.t 22)⟩,
  ⟨(some 4), none, .mov (.t 23)⟩] [] false)
 .ret)
 .skip))
(.seq
(.reg [⟨(some 24), none, .fad 3 (.t 2)⟩,
 ⟨(some 25), none, .load true 4 (.t 24)⟩,
 ⟨(some 26), none, .mov (.t 5)⟩,
 ⟨(some 27), none, .call (.c (.fn 108 [] [])) [(.t 25), (.t 26)]⟩,
 ⟨(some 6), none, .mov (.t 27)⟩] [] false)
(.seq
(.seq
(.reg [⟨(some 28), none, .mov (.t 5)⟩,
 ⟨(some 29), none, .bin .mul (.t 28) (.c (.int .i64 256))⟩,
 ⟨(some 7), none, .mov (.t 29)⟩] [] false)
(.block 0
 (.loop
  (.seq
  (.seq
  (.reg [⟨(some 30), none, .mov (.t 7)⟩,
   ⟨(some 31), none, .mov (.t 1)⟩,
   ⟨(some 32), none, .bin .lss (.t 30) (.t 31)⟩] [] false)
  (.cond (.t 32)
   .skip
   (.exit 0)))
  (.seq
  (.block 1
   (.seq
   (.reg [⟨(some 36), none, .fad 0 (.t 2)⟩,
    ⟨(some 37), none, .load true 2 (.t 36)⟩,
    ⟨(some 38), none, .mov (.t 7)⟩,
    ⟨(some 39), none, .mov (.t 1)⟩,
    ⟨(some 40), none, .mov (.t 7)⟩,
    ⟨(some 41), none, .bin .sub (.t 39) (.t 40)⟩,
    ⟨(some 42), none, .mn (.c (.int .i64 64)) [(.t 41)]⟩,
    ⟨(some 43), none, .call (.c (.fn 194 [] [])) [(.t 37), (.t 38), (.t 42)]⟩,
    ⟨(some 35), none, .mov (.t 43)⟩,
    ⟨(some 44), none, .ext (.t 35) 0⟩,
    ⟨(some 45), none, .ext (.t 35) 1⟩,
    ⟨(some 8), none, .mov (.t 44)⟩,
    ⟨(some 9), none, .mov (.t 45)⟩] [] false)
   (.block 2
    (.loop
     (.seq
     (.seq
     (.reg [⟨(some 46), none, .mov (.t 8)⟩,
      ⟨(some 47), none, .bin .gtr (.t 46) (.c (.int .u64 0))⟩] [] false)
     (.cond (.t 47)
      .skip
      (.exit 2)))
     (.seq
     (.block 3
      (.reg [⟨(some 52), none, .mov (.t 6)⟩,
       ⟨(some 53), none, .bin .add (.t 52) (.c (.int .i64 1))⟩,
       ⟨(some 6), none, .mov (.t 53)⟩] [] false))
     (.reg [⟨(some 48), none, .mov (.t 8)⟩,
      ⟨(some 49), none, .mov (.t 8)⟩,
      ⟨(some 50), none, .bin .sub (.t 49) (.c (.int .u64 1))⟩,
      ⟨(some 51), none, .bin .and (.t 48) (.t 50)⟩,
      ⟨(some 8), none, .mov (.t 51)⟩] [] false)))))))
  (.reg [⟨(some 33), none, .mov (.t 7)⟩,
   ⟨(some 34), none, .bin .add (.t 33) (.c (.int .i64 64))⟩,
   ⟨(some 7), none, .mov (.t 34)⟩] [] false))))))
(.seq
(.reg [⟨(some 54), none, .mov (.t 6)⟩,
 ⟨(some 4), none, .mov (.t 54)⟩] [] false)
.ret)))))))⟩
-- 137 (topiary/rank.Rank).Select1
def n_rank_Rank_Select1 : Nat := 137
def af_rank_Rank_Select1 : AF := ⟨11, [.tmp 4],
(.seq
(.reg [⟨(some 2), none, .box (.t 0)⟩,
 ⟨(some 4), none, .mov (.c (.int .i64 0))⟩] [] false)
(.seq
(.reg [⟨(some 5), none, .load true 7 (.t 2)⟩,
 ⟨(some 6), none, .mov (.t 1)⟩,
 ⟨(some 7), none, .fad 2 (.t 2)⟩,
 ⟨(some 8), none, .load false 1 (.t 7)⟩,
 ⟨(some 9), none, .mkf 196 [] [(.t 2)]⟩,
 ⟨(some 10), none, .call (.c (.fn 195 [] [])) [(.t 5), (.t 6), (.t 8), (.t 9)]⟩,
 ⟨(some 4), none, .mov (.t 10)⟩] [] false)
.ret))⟩
-- 138 (topiary/nav.Nav).is
def n_nav_Nav_is : Nat := 138
def af_nav_Nav_is : AF := ⟨13, [.tmp 4],
(.seq
(.reg [⟨(some 2), none, .box (.t 0)⟩,
 ⟨(some 4), none, .mov (.c (.bool false))⟩] [] false)
(.seq
(.reg [⟨(some 5), none, .mov (.t 1)⟩,
 ⟨(some 6), none, .bin .geq (.t 5) (.c (.int .i64 0))⟩,
 ⟨(some 7), none, .mov (.t 6)⟩,
 ⟨(some 8), (some (7, true)), .mov (.t 1)⟩,
 ⟨(some 9), (some (7, true)), .load true 19 (.t 2)⟩,
 ⟨(some 10), (some (7, true)), .call (.c (.fn 42 [] [])) [(.t 9)]⟩,
 ⟨(some 11), (some (7, true)), .bin .lss (.t 8) (.t 10)⟩,
 ⟨(some 12), none, .pick (.t 7) (.t 11) (.c (.bool false))⟩,
 ⟨(some 4), none, .mov (.t 12)⟩] [] false)
.ret))⟩
-- 139 (topiary/nav.Nav).Among$1
def n_nav_Nav_Among_1 : Nat := 139
def af_nav_Nav_Among_1 : AF := ⟨35, [.tmp 5],
(.seq
(.reg [⟨(some 5), none, .mov (.c (.sl true []))⟩] [] false)
(.seq
(.reg [⟨(some 6), none, .mov (.c (.sl true []))⟩] [] false)
(.seq
(.reg [⟨(some 9), none, .fad 0 (.t 1)⟩,
 ⟨(some 10), none, .load true 3 (.t 9)⟩,
 ⟨(some 11), none, .mov (.t 0)⟩,
 ⟨(some 12), none, .load false 1 (.t 2)⟩,
 ⟨(some 13), none, .call (.c (.fn 140 [] [])) [(.t 10), (.t 11), (.t 12)]⟩,
 ⟨(some 7), none, .mov (.t 13)⟩] [] false)
(.seq
(.seq
(.reg [⟨(some 14), none, .fad 0 (.t 1)⟩,
 ⟨(some 15), none, .load true 3 (.t 14)⟩,
 ⟨(some 16), none, .mov (.t 0)⟩,
 ⟨(some 17), none, .load false 1 (.t 2)⟩,
 ⟨(some 18), none, .load false 1 (.t 3)⟩,
 ⟨(some 19), none, .call (.c (.fn 141 [] [])) [(.t 15), (.t 16), (.t 17), (.t 18)]⟩,
 ⟨(some 20), none, .mov (.c (.int .i64 0))⟩] [] false)
(.block 0
 (.loop
  (.seq
  (.reg [⟨(some 21), none, .bin .lss (.t 20) (.t 19)⟩] [] false)
  (.seq
  (.cond (.t 21)
   .skip
   (.exit 0))
  (.seq
  (.block 1
   (.seq
   (.reg [⟨(some 22), none, .mov (.t 20)⟩,
    ⟨(some 8), none, .mov (.t 22)⟩] [] false)
   (.reg [⟨(some 23), none, .mov (.t 6)⟩,
    ⟨(some 24), none, .fad 0 (.t 1)⟩,
    ⟨(some 25), none, .load true 3 (.t 24)⟩,
    ⟨(some 26), none, .mov (.t 0)⟩,
    ⟨(some 27), none, .mov (.t 7)⟩,
    ⟨(some 28), none, .mov (.t 8)⟩,
    ⟨(some 29), none, .bin .add (.t 27) (.t 28)⟩,
    ⟨(some 30), none, .call (.c (.fn 142 [] [])) [(.t 25), (.t 26), (.t 29)]⟩,
    ⟨(some 31), none, .bsl 3 1 [(.t 30)]⟩,
    ⟨(some 32), none, .app 3 1 8 (.t 23) (.t 31)⟩,
    ⟨(some 6), none, .mov (.t 32)⟩] [] false)))
  (.reg [⟨(some 33), none, .bin .add (.t 20) (.c (.int .i64 1))⟩,
   ⟨(some 20), none, .mov (.t 33)⟩] [] false)))))))
(.seq
(.reg [⟨(some 34), none, .mov (.t 6)⟩,
 ⟨(some 5), none, .mov (.t 34)⟩] [] false)
.ret)))))⟩
-- 140 (topiary/wave.Wave).Rank
def n_wave_Wave_Rank : Nat := 140
def af_wave_Wave_Rank : AF := ⟨60, [.tmp 6],
(.seq
(.reg [⟨(some 3), none, .box (.t 0)⟩,
 ⟨(some 6), none, .mov (.c (.int .i64 0))⟩] [] false)
(.scope
 (.seq
 (.seq
 (.reg [⟨(some 11), none, .load true 3 (.t 3)⟩,
  ⟨(some 12), none, .mov (.t 1)⟩,
  ⟨(some 13), none, .call (.c (.fn 197 [] [])) [(.t 11), (.t 12)]⟩,
  ⟨(some 14), none, .un .not (.t 13)⟩] [] false)
 (.cond (.t 14)
  (.seq
  (.reg [⟨(some 6), none, .mov (.c (.int .i64 0))⟩] [] false)
  .ret)
  .skip))
 (.seq
 (.reg [⟨(some 15), none, .mov (.t 2)⟩,
  ⟨(some 16), none, .mx (.t 15) [(.c (.int .i64 0))]⟩,
  ⟨(some 17), none, .fad 0 (.t 3)⟩,
  ⟨(some 18), none, .load false 1 (.t 17)⟩,
  ⟨(some 19), none, .mn (.t 16) [(.t 18)]⟩,
  ⟨(some 2), none, .mov (.t 19)⟩] [] false)
 (.seq
 (.reg [⟨(some 20), none, .fad 0 (.t 3)⟩,
  ⟨(some 21), none, .load false 1 (.t 20)⟩,
  ⟨(some 22), none, .build [(.int .i64 0), (.int .i64 0)] [(0, 1, (.c (.int .i64 0))), (1, 1, (.t 21))]⟩,
  ⟨(some 7), none, .alc (.agg [(.int .i64 0), (.int .i64 0)])⟩,
  ⟨none, none, .store 2 (.t 7) (.t 22)⟩] [] false)
 (.seq
 .skip
 (.seq
 (.seq
 (.reg [⟨(some 23), none, .fad 2 (.t 3)⟩,
  ⟨(some 24), none, .load false 1 (.t 23)⟩,
  ⟨(some 25), none, .len (.t 24)⟩,
  ⟨(some 26), none, .mov (.c (.int .i64 0))⟩] [] false)
 (.block 0
  (.loop
   (.seq
   (.reg [⟨(some 27), none, .bin .lss (.t 26) (.t 25)⟩] [] false)
   (.seq
   (.cond (.t 27)
    .skip
    (.exit 0))
   (.seq
   (.block 1
    (.seq
    (.reg [⟨(some 28), none, .mov (.t 26)⟩,
     ⟨(some 29), none, .idx 7 (.t 24) (.t 26)⟩,
     ⟨(some 30), none, .load true 7 (.t 29)⟩,
     ⟨(some 9), none, .alc (.agg [(.int .i64 0), (.sl true []), (.int .i64 0), (.int .i64 0), (.int .i64 0), (.int .i64 0), (.sl true [])])⟩,
     ⟨(some 8), none, .mov (.t 28)⟩,
     ⟨none, none, .store 7 (.t 9) (.t 30)⟩] [] false)
    (.seq
    (.seq
    (.reg [⟨(some 31), none, .fad 0 (.t 7)⟩,
     ⟨(some 32), none, .load false 1 (.t 31)⟩,
     ⟨(some 33), none, .fad 1 (.t 7)⟩,
     ⟨(some 34), none, .load false 1 (.t 33)⟩,
     ⟨(some 35), none, .bin .eql (.t 32) (.t 34)⟩] [] false)
    (.cond (.t 35)
     (.exit 0)
     .skip))
    (.seq
    (.reg [⟨(some 36), none, .load true 3 (.t 3)⟩,
     ⟨(some 37), none, .mov (.t 1)⟩,
     ⟨(some 38), none, .mov (.t 8)⟩,
     ⟨(some 39), none, .call (.c (.fn 198 [] [])) [(.t 36), (.t 37), (.t 38)]⟩,
     ⟨(some 10), none, .mov (.t 39)⟩] [] false)
    (.reg [⟨(some 40), none, .load true 2 (.t 7)⟩,
     ⟨(some 41), none, .load true 7 (.t 9)⟩,
     ⟨(some 42), none, .mov (.t 10)⟩,
     ⟨(some 43), none, .mov (.t 2)⟩,
     ⟨(some 44), none, .call (.c (.fn 199 [] [])) [(.t 40), (.t 41), (.t 42), (.t 43)]⟩,
     ⟨(some 45), none, .load true 2 (.t 7)⟩,
     ⟨(some 46), none, .load true 7 (.t 9)⟩,
     ⟨(some 47), none, .mov (.t 10)⟩,
     ⟨(some 48), none, .call (.c (.fn 200 [] [])) [(.t 45), (.t 46), (.t 47)]⟩,
     ⟨(some 2), none, .mov (.t 44)⟩,
     ⟨none, none, .store 2 (.t 7) (.t 48)⟩] [] true)))))
   (.reg [⟨(some 49), none, .bin .add (.t 26) (.c (.int .i64 1))⟩,
    ⟨(some 26), none, .mov (.t 49)⟩] [] false)))))))
 (.seq
 (.reg [⟨(some 50), none, .mov (.t 2)⟩,
  ⟨(some 51), none, .fad 0 (.t 7)⟩,
  ⟨(some 52), none, .load false 1 (.t 51)⟩,
  ⟨(some 53), none, .mx (.t 50) [(.t 52)]⟩,
  ⟨(some 54), none, .fad 1 (.t 7)⟩,
  ⟨(some 55), none, .load false 1 (.t 54)⟩,
  ⟨(some 56), none, .mn (.t 53) [(.t 55)]⟩,
  ⟨(some 57), none, .fad 0 (.t 7)⟩,
  ⟨(some 58), none, .load false 1 (.t 57)⟩,
  ⟨(some 59), none, .bin .sub (.t 56) (.t 58)⟩,
  ⟨(some 6), none, .mov (.t 59)⟩] [] false)
 .ret))))))))⟩
-- 141 (topiary/wave.Wave).Count
def n_wave_Wave_Count : Nat := 141
def af_wave_Wave_Count : AF := ⟨29, [.tmp 8],
(.seq
(.reg [⟨(some 4), none, .box (.t 0)⟩,
 ⟨(some 8), none, .mov (.c (.int .i64 0))⟩] [] false)
(.seq
(.reg [⟨(some 9), none, .mov (.t 2)⟩,
 ⟨(some 10), none, .mx (.t 9) [(.c (.int .i64 0))]⟩,
 ⟨(some 11), none, .fad 0 (.t 4)⟩,
 ⟨(some 12), none, .load false 1 (.t 11)⟩,
 ⟨(some 13), none, .mn (.t 10) [(.t 12)]⟩,
 ⟨(some 2), none, .mov (.t 13)⟩] [] false)
(.seq
(.reg [⟨(some 14), none, .mov (.t 3)⟩,
 ⟨(some 15), none, .mov (.t 2)⟩,
 ⟨(some 16), none, .mx (.t 14) [(.t 15)]⟩,
 ⟨(some 17), none, .fad 0 (.t 4)⟩,
 ⟨(some 18), none, .load false 1 (.t 17)⟩,
 ⟨(some 19), none, .mn (.t 16) [(.t 18)]⟩,
 ⟨(some 3), none, .mov (.t 19)⟩] [] false)
(.seq
(.reg [⟨(some 20), none, .load true 3 (.t 4)⟩,
 ⟨(some 21), none, .mov (.t 1)⟩,
 ⟨(some 22), none, .mov (.t 3)⟩,
 ⟨(some 23), none, .call (.c (.fn 140 [] [])) [(.t 20), (.t 21), (.t 22)]⟩,
 ⟨(some 24), none, .load true 3 (.t 4)⟩,
 ⟨(some 25), none, .mov (.t 1)⟩,
 ⟨(some 26), none, .mov (.t 2)⟩,
 ⟨(some 27), none, .call (.c (.fn 140 [] [])) [(.t 24), (.t 25), (.t 26)]⟩,
 ⟨(some 28), none, .bin .sub (.t 23) (.t 27)⟩,
 ⟨(some 8), none, .mov (.t 28)⟩] [] true)
.ret))))⟩
-- 142 (topiary/wave.Wave).Select
def n_wave_Wave_Select : Nat := 142
def af_wave_Wave_Select : AF := ⟨106, [.tmp 6],
(.seq
(.reg [⟨(some 3), none, .box (.t 0)⟩,
 ⟨(some 4), none, .box (.t 1)⟩,
 ⟨(some 6), none, .mov (.c (.int .i64 0))⟩] [] false)
(.seq
(.seq
(.reg [⟨(some 15), none, .load true 3 (.t 3)⟩,
 ⟨(some 16), none, .load false 1 (.t 4)⟩,
 ⟨(some 17), none, .call (.c (.fn 197 [] [])) [(.t 15), (.t 16)]⟩,
 ⟨(some 18), none, .un .not (.t 17)⟩,
 ⟨(some 19), none, .mov (.t 18)⟩,
 ⟨(some 20), (some (19, false)), .mov (.t 2)⟩,
 ⟨(some 21), (some (19, false)), .bin .lss (.t 20) (.c (.int .i64 0))⟩,
 ⟨(some 22), none, .pick (.t 19) (.c (.bool true)) (.t 21)⟩,
 ⟨(some 23), none, .mov (.t 22)⟩,
 ⟨(some 24), (some (23, false)), .mov (.t 2)⟩,
 ⟨(some 25), (some (23, false)), .load true 3 (.t 3)⟩,
 ⟨(some 26), (some (23, false)), .load false 1 (.t 4)⟩,
 ⟨(some 27), (some (23, false)), .fad 0 (.t 3)⟩,
 ⟨(some 28), (some (23, false)), .load false 1 (.t 27)⟩,
 ⟨(some 29), (some (23, false)), .call (.c (.fn 140 [] [])) [(.t 25), (.t 26), (.t 28)]⟩,
 ⟨(some 30), (some (23, false)), .bin .geq (.t 24) (.t 29)⟩,
 ⟨(some 31), none, .pick (.t 23) (.c (.bool true)) (.t 30)⟩] [] false)
(.cond (.t 31)
 (.seq
 (.reg [⟨(some 6), none, .mov (.c (.int .i64 (-1)))⟩] [] false)
 .ret)
 .skip))
(.seq
(.reg [⟨(some 32), none, .fad 0 (.t 3)⟩,
 ⟨(some 33), none, .load false 1 (.t 32)⟩,
 ⟨(some 34), none, .build [(.int .i64 0), (.int .i64 0)] [(0, 1, (.c (.int .i64 0))), (1, 1, (.t 33))]⟩,
 ⟨(some 35), none, .bsl 210 2 [(.t 34)]⟩,
 ⟨(some 7), none, .alc (.sl true [])⟩,
 ⟨none, none, .store 1 (.t 7) (.t 35)⟩] [] false)
(.seq
(.seq
(.reg [⟨(some 36), none, .fad 2 (.t 3)⟩,
 ⟨(some 37), none, .load false 1 (.t 36)⟩,
 ⟨(some 38), none, .len (.t 37)⟩,
 ⟨(some 39), none, .mov (.c (.int .i64 0))⟩] [] false)
(.block 0
 (.loop
  (.seq
  (.reg [⟨(some 40), none, .bin .lss (.t 39) (.t 38)⟩] [] false)
  (.seq
  (.cond (.t 40)
   .skip
   (.exit 0))
  (.seq
  (.block 1
   (.seq
   (.reg [⟨(some 41), none, .mov (.t 39)⟩,
    ⟨(some 42), none, .idx 7 (.t 37) (.t 39)⟩,
    ⟨(some 43), none, .load true 7 (.t 42)⟩,
    ⟨(some 9), none, .alc (.agg [(.int .i64 0), (.sl true []), (.int .i64 0), (.int .i64 0), (.int .i64 0), (.int .i64 0), (.sl true [])])⟩,
    ⟨(some 8), none, .mov (.t 41)⟩,
    ⟨none, none, .store 7 (.t 9) (.t 43)⟩] [] false)
   (.reg [⟨(some 44), none, .load false 1 (.t 7)⟩,
    ⟨(some 45), none, .load false 1 (.t 7)⟩,
    ⟨(some 46), none, .mov (.t 8)⟩,
    ⟨(some 47), none, .idx 2 (.t 45) (.t 46)⟩,
    ⟨(some 48), none, .load true 2 (.t 47)⟩,
    ⟨(some 49), none, .load true 7 (.t 9)⟩,
    ⟨(some 50), none, .load true 3 (.t 3)⟩,
    ⟨(some 51), none, .load false 1 (.t 4)⟩,
    ⟨(some 52), none, .mov (.t 8)⟩,
    ⟨(some 53), none, .call (.c (.fn 198 [] [])) [(.t 50), (.t 51), (.t 52)]⟩,
    ⟨(some 54), none, .call (.c (.fn 200 [] [])) [(.t 48), (.t 49), (.t 53)]⟩,
    ⟨(some 55), none, .bsl 210 2 [(.t 54)]⟩,
    ⟨(some 56), none, .app 210 2 16 (.t 44) (.t 55)⟩,
    ⟨none, none, .store 1 (.t 7) (.t 56)⟩] [] true)))
  (.reg [⟨(some 57), none, .bin .add (.t 39) (.c (.int .i64 1))⟩,
   ⟨(some 39), none, .mov (.t 57)⟩] [] false)))))))
(.seq
(.reg [⟨(some 58), none, .load false 1 (.t 7)⟩,
 ⟨(some 59), none, .fad 2 (.t 3)⟩,
 ⟨(some 60), none, .load false 1 (.t 59)⟩,
 ⟨(some 61), none, .len (.t 60)⟩,
 ⟨(some 62), none, .idx 2 (.t 58) (.t 61)⟩,
 ⟨(some 63), none, .fad 0 (.t 62)⟩,
 ⟨(some 64), none, .load false 1 (.t 63)⟩,
 ⟨(some 65), none, .mov (.t 2)⟩,
 ⟨(some 66), none, .bin .add (.t 64) (.t 65)⟩,
 ⟨(some 10), none, .alc (.int .i64 0)⟩,
 ⟨none, none, .store 1 (.t 10) (.t 66)⟩] [] false)
(.seq
(.seq
(.reg [⟨(some 67), none, .fad 2 (.t 3)⟩,
 ⟨(some 68), none, .load false 1 (.t 67)⟩,
 ⟨(some 69), none, .call (.c (.fn 201 [] [])) [(.t 68)]⟩] [] false)
(.block 2
 (.rng (.t 69) [70, 71]
  (.seq
  (.reg [⟨(some 11), none, .mov (.t 70)⟩] [] false)
  (.reg [⟨(some 12), none, .alc (.agg [(.int .i64 0), (.sl true []), (.int .i64 0), (.int .i64 0), (.int .i64 0), (.int .i64 0), (.sl true [])])⟩,
   ⟨none, none, .store 7 (.t 12) (.t 71)⟩] [] false))
  (.block 3
   (.seq
   (.reg [⟨(some 72), none, .load false 1 (.t 7)⟩,
    ⟨(some 73), none, .mov (.t 11)⟩,
    ⟨(some 74), none, .idx 2 (.t 72) (.t 73)⟩,
    ⟨(some 75), none, .load true 2 (.t 74)⟩,
    ⟨(some 13), none, .alc (.agg [(.int .i64 0), (.int .i64 0)])⟩,
    ⟨none, none, .store 2 (.t 13) (.t 75)⟩] [] false)
   (.seq
   (.reg [⟨(some 76), none, .load false 1 (.t 10)⟩,
    ⟨(some 77), none, .load false 1 (.t 7)⟩,
    ⟨(some 78), none, .mov (.t 11)⟩,
    ⟨(some 79), none, .bin .add (.t 78) (.c (.int .i64 1))⟩,
    ⟨(some 80), none, .idx 2 (.t 77) (.t 79)⟩,
    ⟨(some 81), none, .fad 0 (.t 80)⟩,
    ⟨(some 82), none, .load false 1 (.t 81)⟩,
    ⟨(some 83), none, .bin .sub (.t 76) (.t 82)⟩,
    ⟨(some 14), none, .mov (.t 83)⟩] [] false)
   (.seq
   (.reg [⟨(some 84), none, .load true 3 (.t 3)⟩,
    ⟨(some 85), none, .load false 1 (.t 4)⟩,
    ⟨(some 86), none, .mov (.t 11)⟩,
    ⟨(some 87), none, .call (.c (.fn 198 [] [])) [(.t 84), (.t 85), (.t 86)]⟩,
    ⟨(some 88), none, .bin .eql (.t 87) (.c (.int .i64 0))⟩] [] false)
   (.cond (.t 88)
    (.reg [⟨(some 89), none, .load true 7 (.t 12)⟩,
     ⟨(some 90), none, .load true 7 (.t 12)⟩,
     ⟨(some 91), none, .fad 0 (.t 13)⟩,
     ⟨(some 92), none, .load false 1 (.t 91)⟩,
     ⟨(some 93), none, .call (.c (.fn 203 [] [])) [(.t 90), (.t 92)]⟩,
     ⟨(some 94), none, .mov (.t 14)⟩,
     ⟨(some 95), none, .bin .add (.t 93) (.t 94)⟩,
     ⟨(some 96), none, .call (.c (.fn 202 [] [])) [(.t 89), (.t 95)]⟩,
     ⟨none, none, .store 1 (.t 10) (.t 96)⟩] [] true)
    (.reg [⟨(some 97), none, .load true 7 (.t 12)⟩,
     ⟨(some 98), none, .load true 7 (.t 12)⟩,
     ⟨(some 99), none, .fad 0 (.t 13)⟩,
     ⟨(some 100), none, .load false 1 (.t 99)⟩,
     ⟨(some 101), none, .call (.c (.fn 136 [] [])) [(.t 98), (.t 100)]⟩,
     ⟨(some 102), none, .mov (.t 14)⟩,
     ⟨(some 103), none, .bin .add (.t 101) (.t 102)⟩,
     ⟨(some 104), none, .call (.c (.fn 137 [] [])) [(.t 97), (.t 103)]⟩,
     ⟨none, none, .store 1 (.t 10) (.t 104)⟩] [] true)))))))))
(.seq
(.reg [⟨(some 105), none, .load false 1 (.t 10)⟩,
 ⟨(some 6), none, .mov (.t 105)⟩] [] false)
.ret)))))))⟩
-- 143 topiary/order.Merge
def n_order_Merge : Nat := 143
def af_order_Merge : AF := ⟨8, [.tmp 4],
(.seq
(.reg [⟨(some 4), none, .mov (.c (.sl true []))⟩] [] false)
(.seq
(.reg [⟨(some 5), none, .mov (.t 0)⟩,
 ⟨(some 6), none, .mov (.t 1)⟩,
 ⟨(some 7), none, .call (.c (.fn 204 [] [])) [(.t 5), (.t 6), (.c (.fn 205 [] []))]⟩,
 ⟨(some 4), none, .mov (.t 7)⟩] [] false)
.ret))⟩
-- 144 topiary/nav.coded
def n_nav_coded : Nat := 144
def af_nav_coded : AF := ⟨11, [.tmp 4],
(.seq
(.reg [⟨(some 4), none, .mov (.c (.int .i64 0))⟩] [] false)
(.seq
(.seq
(.reg [⟨(some 5), none, .mov (.t 1)⟩] [] false)
(.cond (.t 5)
 (.seq
 (.reg [⟨(some 6), none, .mov (.t 0)⟩,
  ⟨(some 7), none, .bin .mul (.c (.int .i64 2)) (.t 6)⟩,
  ⟨(some 8), none, .bin .add (.t 7) (.c (.int .i64 1))⟩,
  ⟨(some 4), none, .mov (.t 8)⟩] [] false)
 .ret)
 .skip))
(.seq
(.reg [⟨(some 9), none, .mov (.t 0)⟩,
 ⟨(some 10), none, .bin .mul (.c (.int .i64 2)) (.t 9)⟩,
 ⟨(some 4), none, .mov (.t 10)⟩] [] false)
.ret)))⟩
-- 155 topiary/topiaryref11.Valid
def n_ref11_Valid : Nat := 155
def af_ref11_Valid : AF := ⟨28, [.tmp 2],
(.seq
(.reg [⟨(some 2), none, .mov (.c (.bool false))⟩] [] false)
(.seq
(.reg [⟨(some 3), none, .mov (.c (.int .i64 0))⟩] [] false)
(.seq
(.block 0
 (.loop
  (.seq
  (.seq
  (.reg [⟨(some 7), none, .mov (.t 3)⟩,
   ⟨(some 8), none, .mov (.t 0)⟩,
   ⟨(some 9), none, .slen (.t 8)⟩,
   ⟨(some 10), none, .bin .lss (.t 7) (.t 9)⟩] [] false)
  (.cond (.t 10)
   .skip
   (.exit 0)))
  (.block 1
   (.seq
   (.reg [⟨(some 12), none, .mov (.t 0)⟩,
    ⟨(some 13), none, .mov (.t 3)⟩,
    ⟨(some 14), none, .call (.c (.fn 221 [] [])) [(.t 12), (.t 13)]⟩,
    ⟨(some 11), none, .mov (.t 14)⟩,
    ⟨(some 15), none, .ext (.t 11) 0⟩,
    ⟨(some 16), none, .ext (.t 11) 1⟩,
    ⟨(some 4), none, .mov (.t 15)⟩,
    ⟨(some 5), none, .mov (.t 16)⟩] [] false)
   (.seq
   (.reg [⟨(some 17), none, .mov (.t 4)⟩,
    ⟨(some 18), none, .call (.c (.fn 222 [] [])) [(.t 17)]⟩,
    ⟨(some 6), none, .mov (.t 18)⟩] [] false)
   (.seq
   (.seq
   (.reg [⟨(some 19), none, .mov (.t 5)⟩,
    ⟨(some 20), none, .bin .eql (.t 19) (.c (.int .i64 0))⟩,
    ⟨(some 21), none, .mov (.t 20)⟩,
    ⟨(some 22), (some (21, false)), .mov (.t 6)⟩,
    ⟨(some 23), (some (21, false)), .un .not (.t 22)⟩,
    ⟨(some 24), none, .pick (.t 21) (.c (.bool true)) (.t 23)⟩] [] false)
   (.cond (.t 24)
    (.seq
    (.reg [⟨(some 2), none, .mov (.c (.bool false))⟩] [] false)
    .ret)
    .skip))
   (.reg [⟨(some 25), none, .mov (.t 3)⟩,
    ⟨(some 26), none, .mov (.t 5)⟩,
    ⟨(some 27), none, .bin .add (.t 25) (.t 26)⟩,
    ⟨(some 3), none, .mov (.t 27)⟩] [] false))))))))
(.seq
(.reg [⟨(some 2), none, .mov (.c (.bool true))⟩] [] false)
.ret))))⟩
-- 156 topiary/topiaryref12.piece
def n_ref12_piece : Nat := 156
def af_ref12_piece : AF := ⟨116, [.tmp 4, .tmp 5],
(.seq
(.reg [⟨(some 4), none, .mov (.c (.sl true []))⟩,
 ⟨(some 5), none, .mov (.c (.bool false))⟩] [] false)
(.seq
(.seq
(.reg [⟨(some 13), none, .mov (.t 0)⟩,
 ⟨(some 14), none, .mov (.t 1)⟩,
 ⟨(some 15), none, .call (.c (.fn 223 [] [])) [(.t 13), (.t 14), (.c (.str ⟨#[60, 33, 45, 45]⟩))]⟩] [] false)
(.cond (.t 15)
 (.seq
 (.reg [⟨(some 16), none, .mov (.t 0)⟩,
  ⟨(some 17), none, .mov (.t 1)⟩,
  ⟨(some 18), none, .bin .add (.t 17) (.c (.int .i64 4))⟩,
  ⟨(some 19), none, .call (.c (.fn 224 [] [])) [(.t 16), (.t 18), (.c (.str ⟨#[45, 45]⟩))]⟩,
  ⟨(some 6), none, .mov (.t 19)⟩] [] false)
 (.seq
 (.seq
 (.reg [⟨(some 20), none, .mov (.t 6)⟩,
  ⟨(some 21), none, .bin .lss (.t 20) (.c (.int .i64 0))⟩,
  ⟨(some 22), none, .mov (.t 21)⟩,
  ⟨(some 23), (some (22, false)), .mov (.t 0)⟩,
  ⟨(some 24), (some (22, false)), .mov (.t 6)⟩,
  ⟨(some 25), (some (22, false)), .call (.c (.fn 223 [] [])) [(.t 23), (.t 24), (.c (.str ⟨#[45, 45, 62]⟩))]⟩,
  ⟨(some 26), (some (22, false)), .un .not (.t 25)⟩,
  ⟨(some 27), none, .pick (.t 22) (.c (.bool true)) (.t 26)⟩] [] false)
 (.cond (.t 27)
  (.seq
  (.reg [⟨(some 4), none, .mov (.c (.sl true []))⟩,
   ⟨(some 5), none, .mov (.c (.bool false))⟩] [] false)
  .ret)
  .skip))
 (.seq
 (.reg [⟨(some 28), none, .mov (.t 1)⟩,
  ⟨(some 29), none, .mov (.t 6)⟩,
  ⟨(some 30), none, .bin .add (.t 29) (.c (.int .i64 3))⟩,
  ⟨(some 31), none, .mov (.t 0)⟩,
  ⟨(some 32), none, .mov (.t 1)⟩,
  ⟨(some 33), none, .bin .add (.t 32) (.c (.int .i64 4))⟩,
  ⟨(some 34), none, .mov (.t 6)⟩,
  ⟨(some 35), none, .slc 0 (.t 31) (some (.t 33)) (some (.t 34)) none⟩,
  ⟨(some 36), none, .build [(.int .i64 0), (.int .i64 0), (.int .i64 0), (.str ⟨#[]⟩), (.str ⟨#[]⟩)] [(0, 1, (.c (.int .i64 7))), (1, 1, (.t 28)), (2, 1, (.t 30)), (4, 1, (.t 35))]⟩,
  ⟨(some 37), none, .bsl 183 5 [(.t 36)]⟩,
  ⟨(some 4), none, .mov (.t 37)⟩,
  ⟨(some 5), none, .mov (.c (.bool true))⟩] [] false)
 .ret)))
 .skip))
(.seq
(.seq
(.reg [⟨(some 38), none, .mov (.t 0)⟩,
 ⟨(some 39), none, .mov (.t 1)⟩,
 ⟨(some 40), none, .call (.c (.fn 223 [] [])) [(.t 38), (.t 39), (.c (.str ⟨#[60, 33, 91, 67, 68, 65, 84, 65, 91]⟩))]⟩] [] false)
(.cond (.t 40)
 (.seq
 (.reg [⟨(some 41), none, .mov (.t 0)⟩,
  ⟨(some 42), none, .mov (.t 1)⟩,
  ⟨(some 43), none, .bin .add (.t 42) (.c (.int .i64 9))⟩,
  ⟨(some 44), none, .call (.c (.fn 224 [] [])) [(.t 41), (.t 43), (.c (.str ⟨#[93, 93, 62]⟩))]⟩,
  ⟨(some 7), none, .mov (.t 44)⟩] [] false)
 (.seq
 (.seq
 (.reg [⟨(some 45), none, .mov (.t 7)⟩,
  ⟨(some 46), none, .bin .lss (.t 45) (.c (.int .i64 0))⟩] [] false)
 (.cond (.t 46)
  (.seq
  (.reg [⟨(some 4), none, .mov (.c (.sl true []))⟩,
   ⟨(some 5), none, .mov (.c (.bool false))⟩] [] false)
  .ret)
  .skip))
 (.seq
 (.reg [⟨(some 47), none, .mov (.t 1)⟩,
  ⟨(some 48), none, .mov (.t 7)⟩,
  ⟨(some 49), none, .bin .add (.t 48) (.c (.int .i64 3))⟩,
  ⟨(some 50), none, .mov (.t 0)⟩,
  ⟨(some 51), none, .mov (.t 1)⟩,
  ⟨(some 52), none, .bin .add (.t 51) (.c (.int .i64 9))⟩,
  ⟨(some 53), none, .mov (.t 7)⟩,
  ⟨(some 54), none, .slc 0 (.t 50) (some (.t 52)) (some (.t 53)) none⟩,
  ⟨(some 55), none, .build [(.int .i64 0), (.int .i64 0), (.int .i64 0), (.str ⟨#[]⟩), (.str ⟨#[]⟩)] [(0, 1, (.c (.int .i64 6))), (1, 1, (.t 47)), (2, 1, (.t 49)), (4, 1, (.t 54))]⟩,
  ⟨(some 56), none, .bsl 183 5 [(.t 55)]⟩,
  ⟨(some 4), none, .mov (.t 56)⟩,
  ⟨(some 5), none, .mov (.c (.bool true))⟩] [] false)
 .ret)))
 .skip))
(.seq
(.seq
(.reg [⟨(some 57), none, .mov (.t 0)⟩,
 ⟨(some 58), none, .mov (.t 1)⟩,
 ⟨(some 59), none, .call (.c (.fn 223 [] [])) [(.t 57), (.t 58), (.c (.str ⟨#[60, 47]⟩))]⟩] [] false)
(.cond (.t 59)
 (.seq
 (.reg [⟨(some 60), none, .mov (.t 0)⟩,
  ⟨(some 61), none, .mov (.t 1)⟩,
  ⟨(some 62), none, .bin .add (.t 61) (.c (.int .i64 2))⟩,
  ⟨(some 63), none, .call (.c (.fn 225 [] [])) [(.t 60), (.t 62)]⟩,
  ⟨(some 8), none, .mov (.t 63)⟩] [] false)
 (.seq
 (.reg [⟨(some 64), none, .mov (.t 0)⟩,
  ⟨(some 65), none, .mov (.t 8)⟩,
  ⟨(some 66), none, .call (.c (.fn 157 [] [])) [(.t 64), (.t 65)]⟩,
  ⟨(some 9), none, .mov (.t 66)⟩] [] false)
 (.seq
 (.seq
 (.reg [⟨(some 67), none, .mov (.t 8)⟩,
  ⟨(some 68), none, .mov (.t 1)⟩,
  ⟨(some 69), none, .bin .add (.t 68) (.c (.int .i64 2))⟩,
  ⟨(some 70), none, .bin .eql (.t 67) (.t 69)⟩,
  ⟨(some 71), none, .mov (.t 70)⟩,
  ⟨(some 72), (some (71, false)), .mov (.t 0)⟩,
  ⟨(some 73), (some (71, false)), .mov (.t 9)⟩,
  ⟨(some 74), (some (71, false)), .call (.c (.fn 223 [] [])) [(.t 72), (.t 73), (.c (.str ⟨#[62]⟩))]⟩,
  ⟨(some 75), (some (71, false)), .un .not (.t 74)⟩,
  ⟨(some 76), none, .pick (.t 71) (.c (.bool true)) (.t 75)⟩] [] false)
 (.cond (.t 76)
  (.seq
  (.reg [⟨(some 4), none, .mov (.c (.sl true []))⟩,
   ⟨(some 5), none, .mov (.c (.bool false))⟩] [] false)
  .ret)
  .skip))
 (.seq
 (.reg [⟨(some 77), none, .mov (.t 1)⟩,
  ⟨(some 78), none, .mov (.t 9)⟩,
  ⟨(some 79), none, .bin .add (.t 78) (.c (.int .i64 1))⟩,
  ⟨(some 80), none, .mov (.t 0)⟩,
  ⟨(some 81), none, .mov (.t 1)⟩,
  ⟨(some 82), none, .bin .add (.t 81) (.c (.int .i64 2))⟩,
  ⟨(some 83), none, .mov (.t 8)⟩,
  ⟨(some 84), none, .slc 0 (.t 80) (some (.t 82)) (some (.t 83)) none⟩,
  ⟨(some 85), none, .build [(.int .i64 0), (.int .i64 0), (.int .i64 0), (.str ⟨#[]⟩), (.str ⟨#[]⟩)] [(0, 1, (.c (.int .i64 5))), (1, 1, (.t 77)), (2, 1, (.t 79)), (3, 1, (.t 84))]⟩,
  ⟨(some 86), none, .bsl 183 5 [(.t 85)]⟩,
  ⟨(some 4), none, .mov (.t 86)⟩,
  ⟨(some 5), none, .mov (.c (.bool true))⟩] [] false)
 .ret))))
 .skip))
(.seq
(.seq
(.reg [⟨(some 87), none, .mov (.t 0)⟩,
 ⟨(some 88), none, .mov (.t 1)⟩,
 ⟨(some 89), none, .call (.c (.fn 223 [] [])) [(.t 87), (.t 88), (.c (.str ⟨#[60]⟩))]⟩] [] false)
(.cond (.t 89)
 (.seq
 (.reg [⟨(some 90), none, .mov (.t 0)⟩,
  ⟨(some 91), none, .mov (.t 1)⟩,
  ⟨(some 92), none, .call (.c (.fn 226 [] [])) [(.t 90), (.t 91)]⟩,
  ⟨(some 93), none, .ext (.t 92) 0⟩,
  ⟨(some 94), none, .ext (.t 92) 1⟩,
  ⟨(some 4), none, .mov (.t 93)⟩,
  ⟨(some 5), none, .mov (.t 94)⟩] [] false)
 .ret)
 .skip))
(.seq
(.reg [⟨(some 95), none, .mov (.t 0)⟩,
 ⟨(some 96), none, .mov (.t 1)⟩,
 ⟨(some 97), none, .call (.c (.fn 224 [] [])) [(.t 95), (.t 96), (.c (.str ⟨#[60]⟩))]⟩,
 ⟨(some 10), none, .mov (.t 97)⟩] [] false)
(.seq
(.seq
(.reg [⟨(some 98), none, .mov (.t 10)⟩,
 ⟨(some 99), none, .bin .lss (.t 98) (.c (.int .i64 0))⟩] [] false)
(.cond (.t 99)
 (.reg [⟨(some 100), none, .mov (.t 0)⟩,
  ⟨(some 101), none, .slen (.t 100)⟩,
  ⟨(some 10), none, .mov (.t 101)⟩] [] false)
 .skip))
(.seq
(.reg [⟨(some 103), none, .mov (.t 0)⟩,
 ⟨(some 104), none, .mov (.t 1)⟩,
 ⟨(some 105), none, .mov (.t 10)⟩,
 ⟨(some 106), none, .slc 0 (.t 103) (some (.t 104)) (some (.t 105)) none⟩,
 ⟨(some 107), none, .call (.c (.fn 227 [] [])) [(.t 106)]⟩,
 ⟨(some 102), none, .mov (.t 107)⟩,
 ⟨(some 108), none, .ext (.t 102) 0⟩,
 ⟨(some 109), none, .ext (.t 102) 1⟩,
 ⟨(some 11), none, .mov (.t 108)⟩,
 ⟨(some 12), none, .mov (.t 109)⟩] [] false)
(.seq
(.reg [⟨(some 110), none, .mov (.t 1)⟩,
 ⟨(some 111), none, .mov (.t 10)⟩,
 ⟨(some 112), none, .mov (.t 11)⟩,
 ⟨(some 113), none, .build [(.int .i64 0), (.int .i64 0), (.int .i64 0), (.str ⟨#[]⟩), (.str ⟨#[]⟩)] [(0, 1, (.c (.int .i64 6))), (1, 1, (.t 110)), (2, 1, (.t 111)), (4, 1, (.t 112))]⟩,
 ⟨(some 114), none, .bsl 183 5 [(.t 113)]⟩,
 ⟨(some 115), none, .mov (.t 12)⟩,
 ⟨(some 4), none, .mov (.t 114)⟩,
 ⟨(some 5), none, .mov (.t 115)⟩] [] false)
.ret)))))))))⟩
-- 157 topiary/topiaryref11.Skip
def n_ref11_Skip : Nat := 157
def af_ref11_Skip : AF := ⟨24, [.tmp 4],
(.seq
(.reg [⟨(some 4), none, .mov (.c (.int .i64 0))⟩] [] false)
(.seq
(.block 0
 (.loop
  (.seq
  (.seq
  (.reg [⟨(some 6), none, .mov (.t 1)⟩,
   ⟨(some 7), none, .bin .geq (.t 6) (.c (.int .i64 0))⟩,
   ⟨(some 8), none, .mov (.t 7)⟩,
   ⟨(some 9), (some (8, true)), .mov (.t 1)⟩,
   ⟨(some 10), (some (8, true)), .mov (.t 0)⟩,
   ⟨(some 11), (some (8, true)), .slen (.t 10)⟩,
   ⟨(some 12), (some (8, true)), .bin .lss (.t 9) (.t 11)⟩,
   ⟨(some 13), none, .pick (.t 8) (.t 12) (.c (.bool false))⟩] [] false)
  (.cond (.t 13)
   .skip
   (.exit 0)))
  (.block 1
   (.seq
   (.reg [⟨(some 14), none, .mov (.t 0)⟩,
    ⟨(some 15), none, .mov (.t 1)⟩,
    ⟨(some 16), none, .sidx (.t 14) (.t 15)⟩,
    ⟨(some 17), none, .call (.c (.fn 228 [] [])) [(.t 16)]⟩,
    ⟨(some 5), none, .mov (.t 17)⟩] [] false)
   (.seq
   (.seq
   (.reg [⟨(some 18), none, .mov (.t 5)⟩,
    ⟨(some 19), none, .un .not (.t 18)⟩] [] false)
   (.cond (.t 19)
    (.seq
    (.reg [⟨(some 20), none, .mov (.t 1)⟩,
     ⟨(some 4), none, .mov (.t 20)⟩] [] false)
    .ret)
    .skip))
   (.reg [⟨(some 21), none, .mov (.t 1)⟩,
    ⟨(some 22), none, .bin .add (.t 21) (.c (.int .i64 1))⟩,
    ⟨(some 1), none, .mov (.t 22)⟩] [] false)))))))
(.seq
(.reg [⟨(some 23), none, .mov (.t 1)⟩,
 ⟨(some 4), none, .mov (.t 23)⟩] [] false)
.ret)))⟩
-- 158 topiary/topiaryref13.with
def n_ref13_with : Nat := 158
def af_ref13_with : AF := ⟨49, [.tmp 4],
(.seq
(.reg [⟨(some 4), none, .mov (.c (.sl true []))⟩] [] false)
(.seq
(.reg [⟨(some 5), none, .mov (.c (.sl true []))⟩] [] false)
(.seq
(.reg [⟨(some 6), none, .mov (.c (.bool false))⟩] [] false)
(.seq
(.seq
(.reg [⟨(some 7), none, .mov (.c (.int .i64 0))⟩] [] false)
(.block 0
 (.loop
  (.seq
  (.seq
  (.reg [⟨(some 8), none, .mov (.t 7)⟩,
   ⟨(some 9), none, .mov (.t 0)⟩,
   ⟨(some 10), none, .len (.t 9)⟩,
   ⟨(some 11), none, .bin .lss (.t 8) (.t 10)⟩] [] false)
  (.cond (.t 11)
   .skip
   (.exit 0)))
  (.seq
  (.block 1
   (.seq
   (.seq
   (.reg [⟨(some 14), none, .mov (.t 0)⟩,
    ⟨(some 15), none, .mov (.t 7)⟩,
    ⟨(some 16), none, .idx 1 (.t 14) (.t 15)⟩,
    ⟨(some 17), none, .load false 1 (.t 16)⟩,
    ⟨(some 18), none, .mov (.t 1)⟩,
    ⟨(some 19), none, .bin .eql (.t 17) (.t 18)⟩] [] false)
   (.cond (.t 19)
    (.seq
    (.reg [⟨(some 20), none, .mov (.t 0)⟩,
     ⟨(some 4), none, .mov (.t 20)⟩] [] false)
    .ret)
    .skip))
   (.seq
   (.seq
   (.reg [⟨(some 21), none, .mov (.t 6)⟩,
    ⟨(some 22), none, .un .not (.t 21)⟩,
    ⟨(some 23), none, .mov (.t 22)⟩,
    ⟨(some 24), (some (23, true)), .mov (.t 0)⟩,
    ⟨(some 25), (some (23, true)), .mov (.t 7)⟩,
    ⟨(some 26), (some (23, true)), .idx 1 (.t 24) (.t 25)⟩,
    ⟨(some 27), (some (23, true)), .load false 1 (.t 26)⟩,
    ⟨(some 28), (some (23, true)), .mov (.t 1)⟩,
    ⟨(some 29), (some (23, true)), .bin .gtr (.t 27) (.t 28)⟩,
    ⟨(some 30), none, .pick (.t 23) (.t 29) (.c (.bool false))⟩] [] false)
   (.cond (.t 30)
    (.seq
    (.reg [⟨(some 31), none, .mov (.t 5)⟩,
     ⟨(some 32), none, .mov (.t 1)⟩,
     ⟨(some 33), none, .bsl 9 1 [(.t 32)]⟩,
     ⟨(some 34), none, .app 9 1 16 (.t 31) (.t 33)⟩,
     ⟨(some 5), none, .mov (.t 34)⟩] [] false)
    (.reg [⟨(some 6), none, .mov (.c (.bool true))⟩] [] false))
    .skip))
   (.reg [⟨(some 35), none, .mov (.t 5)⟩,
    ⟨(some 36), none, .mov (.t 0)⟩,
    ⟨(some 37), none, .mov (.t 7)⟩,
    ⟨(some 38), none, .idx 1 (.t 36) (.t 37)⟩,
    ⟨(some 39), none, .load false 1 (.t 38)⟩,
    ⟨(some 40), none, .bsl 9 1 [(.t 39)]⟩,
    ⟨(some 41), none, .app 9 1 16 (.t 35) (.t 40)⟩,
    ⟨(some 5), none, .mov (.t 41)⟩] [] false))))
  (.reg [⟨(some 12), none, .mov (.t 7)⟩,
   ⟨(some 13), none, .bin .add (.t 12) (.c (.int .i64 1))⟩,
   ⟨(some 7), none, .mov (.t 13)⟩] [] false))))))
(.seq
(.seq
(.reg [⟨(some 42), none, .mov (.t 6)⟩,
 ⟨(some 43), none, .un .not (.t 42)⟩] [] false)
(.cond (.t 43)
 (.reg [⟨(some 44), none, .mov (.t 5)⟩,
  ⟨(some 45), none, .mov (.t 1)⟩,
  ⟨(some 46), none, .bsl 9 1 [(.t 45)]⟩,
  ⟨(some 47), none, .app 9 1 16 (.t 44) (.t 46)⟩,
  ⟨(some 5), none, .mov (.t 47)⟩] [] false)
 .skip))
(.seq
(.reg [⟨(some 48), none, .mov (.t 5)⟩,
 ⟨(some 4), none, .mov (.t 48)⟩] [] false)
.ret))))))⟩
-- 159 topiary/topiaryref13.Number
def n_ref13_Number : Nat := 159
def af_ref13_Number : AF := ⟨19, [.tmp 4],
(.seq
(.reg [⟨(some 4), none, .mov (.c (.int .i64 0))⟩] [] false)
(.seq
(.seq
(.reg [⟨(some 5), none, .mov (.c (.int .i64 0))⟩] [] false)
(.block 0
 (.loop
  (.seq
  (.seq
  (.reg [⟨(some 6), none, .mov (.t 5)⟩,
   ⟨(some 7), none, .mov (.t 0)⟩,
   ⟨(some 8), none, .len (.t 7)⟩,
   ⟨(some 9), none, .bin .lss (.t 6) (.t 8)⟩] [] false)
  (.cond (.t 9)
   .skip
   (.exit 0)))
  (.seq
  (.block 1
   (.seq
   (.reg [⟨(some 12), none, .mov (.t 0)⟩,
    ⟨(some 13), none, .mov (.t 5)⟩,
    ⟨(some 14), none, .idx 1 (.t 12) (.t 13)⟩,
    ⟨(some 15), none, .load false 1 (.t 14)⟩,
    ⟨(some 16), none, .mov (.t 1)⟩,
    ⟨(some 17), none, .bin .eql (.t 15) (.t 16)⟩] [] false)
   (.cond (.t 17)
    (.seq
    (.reg [⟨(some 18), none, .mov (.t 5)⟩,
     ⟨(some 4), none, .mov (.t 18)⟩] [] false)
    .ret)
    .skip)))
  (.reg [⟨(some 10), none, .mov (.t 5)⟩,
   ⟨(some 11), none, .bin .add (.t 10) (.c (.int .i64 1))⟩,
   ⟨(some 5), none, .mov (.t 11)⟩] [] false))))))
(.seq
(.reg [⟨(some 4), none, .mov (.c (.int .i64 (-1)))⟩] [] false)
.ret)))⟩
-- 160 topiary/topiaryref07.Less
def n_ref07_Less : Nat := 160
def af_ref07_Less : AF := ⟨41, [.tmp 4],
(.seq
(.reg [⟨(some 4), none, .mov (.c (.bool false))⟩] [] false)
(.seq
(.seq
(.reg [⟨(some 5), none, .mov (.c (.int .i64 0))⟩] [] false)
(.block 0
 (.loop
  (.seq
  (.seq
  (.reg [⟨(some 6), none, .mov (.t 5)⟩,
   ⟨(some 7), none, .mov (.t 0)⟩,
   ⟨(some 8), none, .len (.t 7)⟩,
   ⟨(some 9), none, .bin .lss (.t 6) (.t 8)⟩,
   ⟨(some 10), none, .mov (.t 9)⟩,
   ⟨(some 11), (some (10, true)), .mov (.t 5)⟩,
   ⟨(some 12), (some (10, true)), .mov (.t 1)⟩,
   ⟨(some 13), (some (10, true)), .len (.t 12)⟩,
   ⟨(some 14), (some (10, true)), .bin .lss (.t 11) (.t 13)⟩,
   ⟨(some 15), none, .pick (.t 10) (.t 14) (.c (.bool false))⟩] [] false)
  (.cond (.t 15)
   .skip
   (.exit 0)))
  (.seq
  (.block 1
   (.seq
   (.reg [⟨(some 18), none, .mov (.t 0)⟩,
    ⟨(some 19), none, .mov (.t 5)⟩,
    ⟨(some 20), none, .idx 1 (.t 18) (.t 19)⟩,
    ⟨(some 21), none, .load false 1 (.t 20)⟩,
    ⟨(some 22), none, .mov (.t 1)⟩,
    ⟨(some 23), none, .mov (.t 5)⟩,
    ⟨(some 24), none, .idx 1 (.t 22) (.t 23)⟩,
    ⟨(some 25), none, .load false 1 (.t 24)⟩,
    ⟨(some 26), none, .bin .neq (.t 21) (.t 25)⟩] [] false)
   (.cond (.t 26)
    (.seq
    (.reg [⟨(some 27), none, .mov (.t 0)⟩,
     ⟨(some 28), none, .mov (.t 5)⟩,
     ⟨(some 29), none, .idx 1 (.t 27) (.t 28)⟩,
     ⟨(some 30), none, .load false 1 (.t 29)⟩,
     ⟨(some 31), none, .mov (.t 1)⟩,
     ⟨(some 32), none, .mov (.t 5)⟩,
     ⟨(some 33), none, .idx 1 (.t 31) (.t 32)⟩,
     ⟨(some 34), none, .load false 1 (.t 33)⟩,
     ⟨(some 35), none, .bin .lss (.t 30) (.t 34)⟩,
     ⟨(some 4), none, .mov (.t 35)⟩] [] false)
    .ret)
    .skip)))
  (.reg [⟨(some 16), none, .mov (.t 5)⟩,
   ⟨(some 17), none, .bin .add (.t 16) (.c (.int .i64 1))⟩,
   ⟨(some 5), none, .mov (.t 17)⟩] [] false))))))
(.seq
(.reg [⟨(some 36), none, .mov (.t 0)⟩,
 ⟨(some 37), none, .len (.t 36)⟩,
 ⟨(some 38), none, .mov (.t 1)⟩,
 ⟨(some 39), none, .len (.t 38)⟩,
 ⟨(some 40), none, .bin .lss (.t 37) (.t 39)⟩,
 ⟨(some 4), none, .mov (.t 40)⟩] [] false)
.ret)))⟩
-- 161 topiary/nav.shape$1
def n_nav_shape_1 : Nat := 161
def af_nav_shape_1 : AF := ⟨12, [.tmp 3],
(.seq
(.reg [⟨(some 3), none, .mov (.c (.bool false))⟩] [] false)
(.seq
(.reg [⟨(some 4), none, .mov (.t 0)⟩,
 ⟨(some 5), none, .bin .lss (.t 4) (.c (.int .i64 0))⟩,
 ⟨(some 6), none, .mov (.t 5)⟩,
 ⟨(some 7), (some (6, false)), .mov (.t 0)⟩,
 ⟨(some 8), (some (6, false)), .load false 1 (.t 1)⟩,
 ⟨(some 9), (some (6, false)), .bin .mul (.c (.int .i64 2)) (.t 8)⟩,
 ⟨(some 10), (some (6, false)), .bin .gtr (.t 7) (.t 9)⟩,
 ⟨(some 11), none, .pick (.t 6) (.c (.bool true)) (.t 10)⟩,
 ⟨(some 3), none, .mov (.t 11)⟩] [] false)
.ret))⟩
-- 162 topiary/nav.shape$2
def n_nav_shape_2 : Nat := 162
def af_nav_shape_2 : AF := ⟨11, [.tmp 3],
(.seq
(.reg [⟨(some 3), none, .mov (.c (.bool false))⟩] [] false)
(.seq
(.reg [⟨(some 4), none, .mov (.t 0)⟩,
 ⟨(some 5), none, .bin .lss (.t 4) (.c (.int .i64 1))⟩,
 ⟨(some 6), none, .mov (.t 5)⟩,
 ⟨(some 7), (some (6, false)), .mov (.t 0)⟩,
 ⟨(some 8), (some (6, false)), .load false 1 (.t 1)⟩,
 ⟨(some 9), (some (6, false)), .bin .gtr (.t 7) (.t 8)⟩,
 ⟨(some 10), none, .pick (.t 6) (.c (.bool true)) (.t 9)⟩,
 ⟨(some 3), none, .mov (.t 10)⟩] [] false)
.ret))⟩
-- 163 slices.Repeat[[]int,int]
def n_slices_Repeat_int : Nat := 163
def af_slices_Repeat_int : AF := ⟨48, [.tmp 4],
(.seq
(.reg [⟨(some 4), none, .mov (.c (.sl true []))⟩] [] false)
(.seq
(.seq
(.reg [⟨(some 9), none, .mov (.t 1)⟩,
 ⟨(some 10), none, .bin .lss (.t 9) (.c (.int .i64 0))⟩] [] false)
(.cond (.t 10)
 (.reg [⟨(some 11), none, .bad ⟩,
  ⟨none, none, .bad ⟩] [] false)
 .skip))
(.seq
(.reg [⟨(some 13), none, .mov (.t 0)⟩,
 ⟨(some 14), none, .len (.t 13)⟩,
 ⟨(some 15), none, .conv .u64 (.t 14)⟩,
 ⟨(some 16), none, .mov (.t 1)⟩,
 ⟨(some 17), none, .conv .u64 (.t 16)⟩,
 ⟨(some 18), none, .call (.c (.fn 229 [] [])) [(.t 15), (.t 17)]⟩,
 ⟨(some 12), none, .mov (.t 18)⟩,
 ⟨(some 19), none, .ext (.t 12) 0⟩,
 ⟨(some 20), none, .ext (.t 12) 1⟩,
 ⟨(some 5), none, .mov (.t 19)⟩,
 ⟨(some 6), none, .mov (.t 20)⟩] [] false)
(.seq
(.seq
(.reg [⟨(some 21), none, .mov (.t 5)⟩,
 ⟨(some 22), none, .bin .gtr (.t 21) (.c (.int .u64 0))⟩,
 ⟨(some 23), none, .mov (.t 22)⟩,
 ⟨(some 24), (some (23, false)), .mov (.t 6)⟩,
 ⟨(some 25), (some (23, false)), .bin .gtr (.t 24) (.c (.int .u64 9223372036854775807))⟩,
 ⟨(some 26), none, .pick (.t 23) (.c (.bool true)) (.t 25)⟩] [] false)
(.cond (.t 26)
 (.reg [⟨(some 27), none, .bad ⟩,
  ⟨none, none, .bad ⟩] [] false)
 .skip))
(.seq
(.reg [⟨(some 28), none, .mov (.t 6)⟩,
 ⟨(some 29), none, .conv .i64 (.t 28)⟩,
 ⟨(some 30), none, .mks 3 1 8 (.int .i64 0) (.t 29)⟩,
 ⟨(some 7), none, .mov (.t 30)⟩] [] false)
(.seq
(.reg [⟨(some 31), none, .mov (.t 7)⟩,
 ⟨(some 32), none, .mov (.t 0)⟩,
 ⟨(some 33), none, .cpy 3 1 (.t 31) (.t 32)⟩,
 ⟨(some 8), none, .mov (.t 33)⟩] [] false)
(.seq
(.block 0
 (.loop
  (.seq
  (.seq
  (.reg [⟨(some 34), none, .mov (.t 8)⟩,
   ⟨(some 35), none, .mov (.t 7)⟩,
   ⟨(some 36), none, .len (.t 35)⟩,
   ⟨(some 37), none, .bin .lss (.t 34) (.t 36)⟩] [] false)
  (.cond (.t 37)
   .skip
   (.exit 0)))
  (.block 1
   (.reg [⟨(some 38), none, .mov (.t 8)⟩,
    ⟨(some 39), none, .mov (.t 7)⟩,
    ⟨(some 40), none, .mov (.t 8)⟩,
    ⟨(some 41), none, .slc 1 (.t 39) (some (.t 40)) none none⟩,
    ⟨(some 42), none, .mov (.t 7)⟩,
    ⟨(some 43), none, .mov (.t 8)⟩,
    ⟨(some 44), none, .slc 1 (.t 42) none (some (.t 43)) none⟩,
    ⟨(some 45), none, .cpy 3 1 (.t 41) (.t 44)⟩,
    ⟨(some 46), none, .bin .add (.t 38) (.t 45)⟩,
    ⟨(some 8), none, .mov (.t 46)⟩] [] false)))))
(.seq
(.reg [⟨(some 47), none, .mov (.t 7)⟩,
 ⟨(some 4), none, .mov (.t 47)⟩] [] false)
.ret))))))))⟩
-- 164 cmp.Less[int]
def n_cmp_Less_int : Nat := 164
def af_cmp_Less_int : AF := ⟨17, [.tmp 4],
(.seq
(.reg [⟨(some 4), none, .mov (.c (.bool false))⟩] [] false)
(.seq
(.reg [⟨(some 5), none, .mov (.t 0)⟩,
 ⟨(some 6), none, .call (.c (.fn 230 [] [])) [(.t 5)]⟩,
 ⟨(some 7), none, .mov (.t 6)⟩,
 ⟨(some 8), (some (7, true)), .mov (.t 1)⟩,
 ⟨(some 9), (some (7, true)), .call (.c (.fn 230 [] [])) [(.t 8)]⟩,
 ⟨(some 10), (some (7, true)), .un .not (.t 9)⟩,
 ⟨(some 11), none, .pick (.t 7) (.t 10) (.c (.bool false))⟩,
 ⟨(some 12), none, .mov (.t 11)⟩,
 ⟨(some 13), (some (12, false)), .mov (.t 0)⟩,
 ⟨(some 14), (some (12, false)), .mov (.t 1)⟩,
 ⟨(some 15), (some (12, false)), .bin .lss (.t 13) (.t 14)⟩,
 ⟨(some 16), none, .pick (.t 12) (.c (.bool true)) (.t 15)⟩,
 ⟨(some 4), none, .mov (.t 16)⟩] [] false)
.ret))⟩
-- 165 topiary/tree.Symbols
def n_tree_Symbols : Nat := 165
def af_tree_Symbols : AF := ⟨8, [.tmp 2],
(.seq
(.reg [⟨(some 1), none, .box (.t 0)⟩,
 ⟨(some 2), none, .mov (.c (.int .i64 0))⟩] [] false)
(.seq
(.reg [⟨(some 3), none, .fad 0 (.t 1)⟩,
 ⟨(some 4), none, .load false 1 (.t 3)⟩,
 ⟨(some 5), none, .len (.t 4)⟩,
 ⟨(some 6), none, .bin .mul (.c (.int .i64 2)) (.t 5)⟩,
 ⟨(some 7), none, .bin .add (.t 6) (.c (.int .i64 1))⟩,
 ⟨(some 2), none, .mov (.t 7)⟩] [] false)
.ret))⟩
-- 166 topiary/tree.Parent
def n_tree_Parent : Nat := 166
def af_tree_Parent : AF := ⟨29, [.tmp 4],
(.seq
(.reg [⟨(some 2), none, .box (.t 0)⟩,
 ⟨(some 4), none, .mov (.c (.int .i64 0))⟩] [] false)
(.seq
(.seq
(.reg [⟨(some 6), none, .mov (.t 1)⟩,
 ⟨(some 7), none, .bin .lss (.t 6) (.c (.int .i64 0))⟩,
 ⟨(some 8), none, .mov (.t 7)⟩,
 ⟨(some 9), (some (8, false)), .mov (.t 1)⟩,
 ⟨(some 10), (some (8, false)), .fad 1 (.t 2)⟩,
 ⟨(some 11), (some (8, false)), .load false 1 (.t 10)⟩,
 ⟨(some 12), (some (8, false)), .len (.t 11)⟩,
 ⟨(some 13), (some (8, false)), .bin .geq (.t 9) (.t 12)⟩,
 ⟨(some 14), none, .pick (.t 8) (.c (.bool true)) (.t 13)⟩] [] false)
(.cond (.t 14)
 (.seq
 (.reg [⟨(some 4), none, .mov (.c (.int .i64 (-1)))⟩] [] false)
 .ret)
 .skip))
(.seq
(.reg [⟨(some 15), none, .fad 1 (.t 2)⟩,
 ⟨(some 16), none, .load false 1 (.t 15)⟩,
 ⟨(some 17), none, .mov (.t 1)⟩,
 ⟨(some 18), none, .idx 4 (.t 16) (.t 17)⟩,
 ⟨(some 19), none, .fad 2 (.t 18)⟩,
 ⟨(some 20), none, .load false 1 (.t 19)⟩,
 ⟨(some 5), none, .mov (.t 20)⟩] [] false)
(.seq
(.seq
(.reg [⟨(some 21), none, .mov (.t 5)⟩,
 ⟨(some 22), none, .bin .lss (.t 21) (.c (.int .i64 0))⟩,
 ⟨(some 23), none, .mov (.t 22)⟩,
 ⟨(some 24), (some (23, false)), .mov (.t 5)⟩,
 ⟨(some 25), (some (23, false)), .mov (.t 1)⟩,
 ⟨(some 26), (some (23, false)), .bin .geq (.t 24) (.t 25)⟩,
 ⟨(some 27), none, .pick (.t 23) (.c (.bool true)) (.t 26)⟩] [] false)
(.cond (.t 27)
 (.seq
 (.reg [⟨(some 4), none, .mov (.c (.int .i64 (-1)))⟩] [] false)
 .ret)
 .skip))
(.seq
(.reg [⟨(some 28), none, .mov (.t 5)⟩,
 ⟨(some 4), none, .mov (.t 28)⟩] [] false)
.ret)))))⟩
-- 167 topiary/tree.Symbol
def n_tree_Symbol : Nat := 167
def af_tree_Symbol : AF := ⟨58, [.tmp 4],
(.seq
(.reg [⟨(some 2), none, .box (.t 0)⟩,
 ⟨(some 4), none, .mov (.c (.int .i64 0))⟩] [] false)
(.seq
(.seq
(.reg [⟨(some 7), none, .mov (.t 1)⟩,
 ⟨(some 8), none, .bin .lss (.t 7) (.c (.int .i64 0))⟩,
 ⟨(some 9), none, .mov (.t 8)⟩,
 ⟨(some 10), (some (9, false)), .mov (.t 1)⟩,
 ⟨(some 11), (some (9, false)), .fad 1 (.t 2)⟩,
 ⟨(some 12), (some (9, false)), .load false 1 (.t 11)⟩,
 ⟨(some 13), (some (9, false)), .len (.t 12)⟩,
 ⟨(some 14), (some (9, false)), .bin .geq (.t 10) (.t 13)⟩,
 ⟨(some 15), none, .pick (.t 9) (.c (.bool true)) (.t 14)⟩] [] false)
(.cond (.t 15)
 (.seq
 (.reg [⟨(some 4), none, .mov (.c (.int .i64 (-1)))⟩] [] false)
 .ret)
 .skip))
(.seq
(.reg [⟨(some 16), none, .fad 1 (.t 2)⟩,
 ⟨(some 17), none, .load false 1 (.t 16)⟩,
 ⟨(some 18), none, .mov (.t 1)⟩,
 ⟨(some 19), none, .idx 4 (.t 17) (.t 18)⟩,
 ⟨(some 20), none, .load true 4 (.t 19)⟩,
 ⟨(some 5), none, .alc (.agg [(.int .i64 0), (.int .i64 0), (.int .i64 0), (.str ⟨#[]⟩)])⟩,
 ⟨none, none, .store 4 (.t 5) (.t 20)⟩] [] false)
(.seq
(.reg [⟨(some 21), none, .fad 1 (.t 5)⟩,
 ⟨(some 22), none, .load false 1 (.t 21)⟩,
 ⟨(some 23), none, .bin .geq (.t 22) (.c (.int .i64 0))⟩,
 ⟨(some 24), none, .mov (.t 23)⟩,
 ⟨(some 25), (some (24, true)), .fad 1 (.t 5)⟩,
 ⟨(some 26), (some (24, true)), .load false 1 (.t 25)⟩,
 ⟨(some 27), (some (24, true)), .fad 0 (.t 2)⟩,
 ⟨(some 28), (some (24, true)), .load false 1 (.t 27)⟩,
 ⟨(some 29), (some (24, true)), .len (.t 28)⟩,
 ⟨(some 30), (some (24, true)), .bin .lss (.t 26) (.t 29)⟩,
 ⟨(some 31), none, .pick (.t 24) (.t 30) (.c (.bool false))⟩,
 ⟨(some 6), none, .mov (.t 31)⟩] [] false)
(.seq
(.block 0
 (.seq
 (.reg [⟨(some 33), none, .fad 0 (.t 5)⟩,
  ⟨(some 34), none, .load false 1 (.t 33)⟩,
  ⟨(some 35), none, .bin .neq (.t 34) (.c (.int .i64 1))⟩,
  ⟨(some 36), none, .mov (.t 35)⟩,
  ⟨(some 37), (some (36, true)), .fad 0 (.t 5)⟩,
  ⟨(some 38), (some (36, true)), .load false 1 (.t 37)⟩,
  ⟨(some 39), (some (36, true)), .bin .neq (.t 38) (.c (.int .i64 2))⟩,
  ⟨(some 40), none, .pick (.t 36) (.t 39) (.c (.bool false))⟩,
  ⟨(some 32), none, .mov (.t 40)⟩] [] false)
 (.cond (.t 32)
  (.seq
  (.reg [⟨(some 41), none, .load true 2 (.t 2)⟩,
   ⟨(some 42), none, .call (.c (.fn 165 [] [])) [(.t 41)]⟩,
   ⟨(some 43), none, .bin .sub (.t 42) (.c (.int .i64 1))⟩,
   ⟨(some 4), none, .mov (.t 43)⟩] [] false)
  .ret)
  (.seq
  (.reg [⟨(some 45), none, .mov (.t 6)⟩,
   ⟨(some 46), none, .un .not (.t 45)⟩,
   ⟨(some 44), none, .mov (.t 46)⟩] [] false)
  (.cond (.t 44)
   (.seq
   (.reg [⟨(some 4), none, .mov (.c (.int .i64 (-1)))⟩] [] false)
   .ret)
   (.seq
   (.reg [⟨(some 48), none, .fad 0 (.t 5)⟩,
    ⟨(some 49), none, .load false 1 (.t 48)⟩,
    ⟨(some 50), none, .bin .eql (.t 49) (.c (.int .i64 2))⟩,
    ⟨(some 47), none, .mov (.t 50)⟩] [] false)
   (.cond (.t 47)
    (.seq
    (.reg [⟨(some 51), none, .fad 1 (.t 5)⟩,
     ⟨(some 52), none, .load false 1 (.t 51)⟩,
     ⟨(some 53), none, .bin .mul (.c (.int .i64 2)) (.t 52)⟩,
     ⟨(some 54), none, .bin .add (.t 53) (.c (.int .i64 1))⟩,
     ⟨(some 4), none, .mov (.t 54)⟩] [] false)
    .ret)
    .skip)))))))
(.seq
(.reg [⟨(some 55), none, .fad 1 (.t 5)⟩,
 ⟨(some 56), none, .load false 1 (.t 55)⟩,
 ⟨(some 57), none, .bin .mul (.c (.int .i64 2)) (.t 56)⟩,
 ⟨(some 4), none, .mov (.t 57)⟩] [] false)
.ret))))))⟩
-- 168 topiary/xbw.Order
def n_xbw_Order : Nat := 168
def af_xbw_Order : AF := ⟨16, [.tmp 2],
(.seq
(.reg [⟨(some 1), none, .box (.t 0)⟩,
 ⟨(some 2), none, .mov (.c (.sl true []))⟩] [] false)
(.seq
(.reg [⟨(some 6), none, .load true 2 (.t 1)⟩,
 ⟨(some 7), none, .call (.c (.fn 232 [] [])) [(.t 6)]⟩,
 ⟨(some 8), none, .fad 1 (.t 1)⟩,
 ⟨(some 9), none, .load false 1 (.t 8)⟩,
 ⟨(some 10), none, .len (.t 9)⟩,
 ⟨(some 11), none, .mx (.t 10) [(.c (.int .i64 1))]⟩,
 ⟨(some 12), none, .call (.c (.fn 231 [] [])) [(.t 7), (.t 11)]⟩,
 ⟨(some 5), none, .mov (.t 12)⟩,
 ⟨(some 13), none, .ext (.t 5) 0⟩,
 ⟨(some 14), none, .ext (.t 5) 1⟩,
 ⟨(some 3), none, .mov (.t 13)⟩,
 ⟨(some 4), none, .mov (.t 14)⟩] [] true)
(.seq
(.reg [⟨(some 15), none, .mov (.t 3)⟩,
 ⟨(some 2), none, .mov (.t 15)⟩] [] false)
.ret)))⟩
-- 169 slices.Equal[[]int,int]
def n_slices_Equal_int : Nat := 169
def af_slices_Equal_int : AF := ⟨26, [.tmp 4],
(.seq
(.reg [⟨(some 4), none, .mov (.c (.bool false))⟩] [] false)
(.seq
(.seq
(.reg [⟨(some 6), none, .mov (.t 0)⟩,
 ⟨(some 7), none, .len (.t 6)⟩,
 ⟨(some 8), none, .mov (.t 1)⟩,
 ⟨(some 9), none, .len (.t 8)⟩,
 ⟨(some 10), none, .bin .neq (.t 7) (.t 9)⟩] [] false)
(.cond (.t 10)
 (.seq
 (.reg [⟨(some 4), none, .mov (.c (.bool false))⟩] [] false)
 .ret)
 .skip))
(.seq
(.seq
(.reg [⟨(some 11), none, .mov (.t 0)⟩,
 ⟨(some 12), none, .len (.t 11)⟩,
 ⟨(some 13), none, .mov (.c (.int .i64 0))⟩] [] false)
(.block 0
 (.loop
  (.seq
  (.reg [⟨(some 14), none, .bin .lss (.t 13) (.t 12)⟩] [] false)
  (.seq
  (.cond (.t 14)
   .skip
   (.exit 0))
  (.seq
  (.block 1
   (.seq
   (.reg [⟨(some 15), none, .mov (.t 13)⟩,
    ⟨(some 5), none, .mov (.t 15)⟩] [] false)
   (.seq
   (.reg [⟨(some 16), none, .mov (.t 0)⟩,
    ⟨(some 17), none, .mov (.t 5)⟩,
    ⟨(some 18), none, .idx 1 (.t 16) (.t 17)⟩,
    ⟨(some 19), none, .load false 1 (.t 18)⟩,
    ⟨(some 20), none, .mov (.t 1)⟩,
    ⟨(some 21), none, .mov (.t 5)⟩,
    ⟨(some 22), none, .idx 1 (.t 20) (.t 21)⟩,
    ⟨(some 23), none, .load false 1 (.t 22)⟩,
    ⟨(some 24), none, .bin .neq (.t 19) (.t 23)⟩] [] false)
   (.cond (.t 24)
    (.seq
    (.reg [⟨(some 4), none, .mov (.c (.bool false))⟩] [] false)
    .ret)
    .skip))))
  (.reg [⟨(some 25), none, .bin .add (.t 13) (.c (.int .i64 1))⟩,
   ⟨(some 13), none, .mov (.t 25)⟩] [] false)))))))
(.seq
(.reg [⟨(some 4), none, .mov (.c (.bool true))⟩] [] false)
.ret))))⟩
-- 170 slices.Equal[[]bool,bool]
def n_slices_Equal_bool : Nat := 170
def af_slices_Equal_bool : AF := ⟨26, [.tmp 4],
(.seq
(.reg [⟨(some 4), none, .mov (.c (.bool false))⟩] [] false)
(.seq
(.seq
(.reg [⟨(some 6), none, .mov (.t 0)⟩,
 ⟨(some 7), none, .len (.t 6)⟩,
 ⟨(some 8), none, .mov (.t 1)⟩,
 ⟨(some 9), none, .len (.t 8)⟩,
 ⟨(some 10), none, .bin .neq (.t 7) (.t 9)⟩] [] false)
(.cond (.t 10)
 (.seq
 (.reg [⟨(some 4), none, .mov (.c (.bool false))⟩] [] false)
 .ret)
 .skip))
(.seq
(.seq
(.reg [⟨(some 11), none, .mov (.t 0)⟩,
 ⟨(some 12), none, .len (.t 11)⟩,
 ⟨(some 13), none, .mov (.c (.int .i64 0))⟩] [] false)
(.block 0
 (.loop
  (.seq
  (.reg [⟨(some 14), none, .bin .lss (.t 13) (.t 12)⟩] [] false)
  (.seq
  (.cond (.t 14)
   .skip
   (.exit 0))
  (.seq
  (.block 1
   (.seq
   (.reg [⟨(some 15), none, .mov (.t 13)⟩,
    ⟨(some 5), none, .mov (.t 15)⟩] [] false)
   (.seq
   (.reg [⟨(some 16), none, .mov (.t 0)⟩,
    ⟨(some 17), none, .mov (.t 5)⟩,
    ⟨(some 18), none, .idx 1 (.t 16) (.t 17)⟩,
    ⟨(some 19), none, .load false 1 (.t 18)⟩,
    ⟨(some 20), none, .mov (.t 1)⟩,
    ⟨(some 21), none, .mov (.t 5)⟩,
    ⟨(some 22), none, .idx 1 (.t 20) (.t 21)⟩,
    ⟨(some 23), none, .load false 1 (.t 22)⟩,
    ⟨(some 24), none, .eqb true (.t 19) (.t 23)⟩] [] false)
   (.cond (.t 24)
    (.seq
    (.reg [⟨(some 4), none, .mov (.c (.bool false))⟩] [] false)
    .ret)
    .skip))))
  (.reg [⟨(some 25), none, .bin .add (.t 13) (.c (.int .i64 1))⟩,
   ⟨(some 13), none, .mov (.t 25)⟩] [] false)))))))
(.seq
(.reg [⟨(some 4), none, .mov (.c (.bool true))⟩] [] false)
.ret))))⟩
-- 172 slices.pdqsortOrdered[int]
def n_slices_pdqsortOrdered_int : Nat := 172
def af_slices_pdqsortOrdered_int : AF := ⟨134, [],
(.seq
(.reg [⟨(some 8), none, .mov (.c (.bool true))⟩] [] false)
(.seq
(.reg [⟨(some 9), none, .mov (.c (.bool true))⟩] [] false)
(.block 0
 (.loop
  (.block 1
   (.seq
   (.reg [⟨(some 19), none, .mov (.t 2)⟩,
    ⟨(some 20), none, .mov (.t 1)⟩,
    ⟨(some 21), none, .bin .sub (.t 19) (.t 20)⟩,
    ⟨(some 10), none, .mov (.t 21)⟩] [] false)
   (.seq
   (.seq
   (.reg [⟨(some 22), none, .mov (.t 10)⟩,
    ⟨(some 23), none, .bin .leq (.t 22) (.c (.int .i64 12))⟩] [] false)
   (.cond (.t 23)
    (.seq
    (.reg [⟨(some 24), none, .mov (.t 0)⟩,
     ⟨(some 25), none, .mov (.t 1)⟩,
     ⟨(some 26), none, .mov (.t 2)⟩,
     ⟨(some 27), none, .call (.c (.fn 233 [] [])) [(.t 24), (.t 25), (.t 26)]⟩] [] false)
    .ret)
    .skip))
   (.seq
   (.seq
   (.reg [⟨(some 28), none, .mov (.t 3)⟩,
    ⟨(some 29), none, .bin .eql (.t 28) (.c (.int .i64 0))⟩] [] false)
   (.cond (.t 29)
    (.seq
    (.reg [⟨(some 30), none, .mov (.t 0)⟩,
     ⟨(some 31), none, .mov (.t 1)⟩,
     ⟨(some 32), none, .mov (.t 2)⟩,
     ⟨(some 33), none, .call (.c (.fn 234 [] [])) [(.t 30), (.t 31), (.t 32)]⟩] [] false)
    .ret)
    .skip))
   (.seq
   (.seq
   (.reg [⟨(some 34), none, .mov (.t 8)⟩,
    ⟨(some 35), none, .un .not (.t 34)⟩] [] false)
   (.cond (.t 35)
    (.seq
    (.reg [⟨(some 36), none, .mov (.t 0)⟩,
     ⟨(some 37), none, .mov (.t 1)⟩,
     ⟨(some 38), none, .mov (.t 2)⟩,
     ⟨(some 39), none, .call (.c (.fn 235 [] [])) [(.t 36), (.t 37), (.t 38)]⟩] [] false)
    (.reg [⟨(some 40), none, .mov (.t 3)⟩,
     ⟨(some 41), none, .bin .sub (.t 40) (.c (.int .i64 1))⟩,
     ⟨(some 3), none, .mov (.t 41)⟩] [] false))
    .skip))
   (.seq
   (.reg [⟨(some 43), none, .mov (.t 0)⟩,
    ⟨(some 44), none, .mov (.t 1)⟩,
    ⟨(some 45), none, .mov (.t 2)⟩,
    ⟨(some 46), none, .call (.c (.fn 236 [] [])) [(.t 43), (.t 44), (.t 45)]⟩,
    ⟨(some 42), none, .mov (.t 46)⟩,
    ⟨(some 47), none, .ext (.t 42) 0⟩,
    ⟨(some 48), none, .ext (.t 42) 1⟩,
    ⟨(some 11), none, .mov (.t 47)⟩,
    ⟨(some 12), none, .mov (.t 48)⟩] [] false)
   (.seq
   (.seq
   (.reg [⟨(some 49), none, .mov (.t 12)⟩,
    ⟨(some 50), none, .bin .eql (.t 49) (.c (.int .i64 2))⟩] [] false)
   (.cond (.t 50)
    (.seq
    (.reg [⟨(some 51), none, .mov (.t 0)⟩,
     ⟨(some 52), none, .mov (.t 1)⟩,
     ⟨(some 53), none, .mov (.t 2)⟩,
     ⟨(some 54), none, .call (.c (.fn 237 [] [])) [(.t 51), (.t 52), (.t 53)]⟩] [] false)
    (.seq
    (.reg [⟨(some 55), none, .mov (.t 2)⟩,
     ⟨(some 56), none, .bin .sub (.t 55) (.c (.int .i64 1))⟩,
     ⟨(some 57), none, .mov (.t 11)⟩,
     ⟨(some 58), none, .mov (.t 1)⟩,
     ⟨(some 59), none, .bin .sub (.t 57) (.t 58)⟩,
     ⟨(some 60), none, .bin .sub (.t 56) (.t 59)⟩,
     ⟨(some 11), none, .mov (.t 60)⟩] [] false)
    (.reg [⟨(some 12), none, .mov (.c (.int .i64 1))⟩] [] false)))
    .skip))
   (.seq
   (.seq
   (.reg [⟨(some 61), none, .mov (.t 8)⟩,
    ⟨(some 62), none, .mov (.t 61)⟩,
    ⟨(some 63), (some (62, true)), .mov (.t 9)⟩,
    ⟨(some 64), none, .pick (.t 62) (.t 63) (.c (.bool false))⟩,
    ⟨(some 65), none, .mov (.t 64)⟩,
    ⟨(some 66), (some (65, true)), .mov (.t 12)⟩,
    ⟨(some 67), (some (65, true)), .bin .eql (.t 66) (.c (.int .i64 1))⟩,
    ⟨(some 68), none, .pick (.t 65) (.t 67) (.c (.bool false))⟩] [] false)
   (.cond (.t 68)
    (.seq
    (.reg [⟨(some 69), none, .mov (.t 0)⟩,
     ⟨(some 70), none, .mov (.t 1)⟩,
     ⟨(some 71), none, .mov (.t 2)⟩,
     ⟨(some 72), none, .call (.c (.fn 238 [] [])) [(.t 69), (.t 70), (.t 71)]⟩] [] false)
    (.cond (.t 72)
     .ret
     .skip))
    .skip))
   (.seq
   (.seq
   (.reg [⟨(some 73), none, .mov (.t 1)⟩,
    ⟨(some 74), none, .bin .gtr (.t 73) (.c (.int .i64 0))⟩,
    ⟨(some 75), none, .mov (.t 74)⟩,
    ⟨(some 76), (some (75, true)), .mov (.t 0)⟩,
    ⟨(some 77), (some (75, true)), .mov (.t 1)⟩,
    ⟨(some 78), (some (75, true)), .bin .sub (.t 77) (.c (.int .i64 1))⟩,
    ⟨(some 79), (some (75, true)), .idx 1 (.t 76) (.t 78)⟩,
    ⟨(some 80), (some (75, true)), .load false 1 (.t 79)⟩,
    ⟨(some 81), (some (75, true)), .mov (.t 0)⟩,
    ⟨(some 82), (some (75, true)), .mov (.t 11)⟩,
    ⟨(some 83), (some (75, true)), .idx 1 (.t 81) (.t 82)⟩,
    ⟨(some 84), (some (75, true)), .load false 1 (.t 83)⟩,
    ⟨(some 85), (some (75, true)), .call (.c (.fn 164 [] [])) [(.t 80), (.t 84)]⟩,
    ⟨(some 86), (some (75, true)), .un .not (.t 85)⟩,
    ⟨(some 87), none, .pick (.t 75) (.t 86) (.c (.bool false))⟩] [] false)
   (.cond (.t 87)
    (.seq
    (.reg [⟨(some 88), none, .mov (.t 0)⟩,
     ⟨(some 89), none, .mov (.t 1)⟩,
     ⟨(some 90), none, .mov (.t 2)⟩,
     ⟨(some 91), none, .mov (.t 11)⟩,
     ⟨(some 92), none, .call (.c (.fn 239 [] [])) [(.t 88), (.t 89), (.t 90), (.t 91)]⟩,
     ⟨(some 13), none, .mov (.t 92)⟩] [] false)
    (.seq
    (.reg [⟨(some 93), none, .mov (.t 13)⟩,
     ⟨(some 1), none, .mov (.t 93)⟩] [] false)
    (.exit 1)))
    .skip))
   (.seq
   (.reg [⟨(some 95), none, .mov (.t 0)⟩,
    ⟨(some 96), none, .mov (.t 1)⟩,
    ⟨(some 97), none, .mov (.t 2)⟩,
    ⟨(some 98), none, .mov (.t 11)⟩,
    ⟨(some 99), none, .call (.c (.fn 240 [] [])) [(.t 95), (.t 96), (.t 97), (.t 98)]⟩,
    ⟨(some 94), none, .mov (.t 99)⟩,
    ⟨(some 100), none, .ext (.t 94) 0⟩,
    ⟨(some 101), none, .ext (.t 94) 1⟩,
    ⟨(some 14), none, .mov (.t 100)⟩,
    ⟨(some 15), none, .mov (.t 101)⟩] [] false)
   (.seq
   (.reg [⟨(some 102), none, .mov (.t 15)⟩,
    ⟨(some 9), none, .mov (.t 102)⟩] [] false)
   (.seq
   (.reg [⟨(some 103), none, .mov (.t 14)⟩,
    ⟨(some 104), none, .mov (.t 1)⟩,
    ⟨(some 105), none, .bin .sub (.t 103) (.t 104)⟩,
    ⟨(some 106), none, .mov (.t 2)⟩,
    ⟨(some 107), none, .mov (.t 14)⟩,
    ⟨(some 108), none, .bin .sub (.t 106) (.t 107)⟩,
    ⟨(some 16), none, .mov (.t 105)⟩,
    ⟨(some 17), none, .mov (.t 108)⟩] [] false)
   (.seq
   (.reg [⟨(some 109), none, .mov (.t 10)⟩,
    ⟨(some 110), none, .bin .quo (.t 109) (.c (.int .i64 8))⟩,
    ⟨(some 18), none, .mov (.t 110)⟩] [] false)
   (.seq
   (.reg [⟨(some 111), none, .mov (.t 16)⟩,
    ⟨(some 112), none, .mov (.t 17)⟩,
    ⟨(some 113), none, .bin .lss (.t 111) (.t 112)⟩] [] false)
   (.cond (.t 113)
    (.seq
    (.reg [⟨(some 114), none, .mov (.t 16)⟩,
     ⟨(some 115), none, .mov (.t 18)⟩,
     ⟨(some 116), none, .bin .geq (.t 114) (.t 115)⟩,
     ⟨(some 8), none, .mov (.t 116)⟩] [] false)
    (.seq
    (.reg [⟨(some 117), none, .mov (.t 0)⟩,
     ⟨(some 118), none, .mov (.t 1)⟩,
     ⟨(some 119), none, .mov (.t 14)⟩,
     ⟨(some 120), none, .mov (.t 3)⟩,
     ⟨(some 121), none, .call (.c (.fn 172 [] [])) [(.t 117), (.t 118), (.t 119), (.t 120)]⟩] [] false)
    (.reg [⟨(some 122), none, .mov (.t 14)⟩,
     ⟨(some 123), none, .bin .add (.t 122) (.c (.int .i64 1))⟩,
     ⟨(some 1), none, .mov (.t 123)⟩] [] false)))
    (.seq
    (.reg [⟨(some 124), none, .mov (.t 17)⟩,
     ⟨(some 125), none, .mov (.t 18)⟩,
     ⟨(some 126), none, .bin .geq (.t 124) (.t 125)⟩,
     ⟨(some 8), none, .mov (.t 126)⟩] [] false)
    (.seq
    (.reg [⟨(some 127), none, .mov (.t 0)⟩,
     ⟨(some 128), none, .mov (.t 14)⟩,
     ⟨(some 129), none, .bin .add (.t 128) (.c (.int .i64 1))⟩,
     ⟨(some 130), none, .mov (.t 2)⟩,
     ⟨(some 131), none, .mov (.t 3)⟩,
     ⟨(some 132), none, .call (.c (.fn 172 [] [])) [(.t 127), (.t 129), (.t 130), (.t 131)]⟩] [] false)
    (.reg [⟨(some 133), none, .mov (.t 14)⟩,
     ⟨(some 2), none, .mov (.t 133)⟩] [] false))))))))))))))))))))))⟩
-- 173 math/bits.Len
def n_math_bits_Len : Nat := 173
def af_math_bits_Len : AF := ⟨8, [.tmp 2],
(.seq
(.reg [⟨(some 2), none, .mov (.c (.int .i64 0))⟩] [] false)
(.seq
(.cond (.c (.bool false))
 (.seq
 (.reg [⟨(some 3), none, .mov (.t 0)⟩,
  ⟨(some 4), none, .conv .u32 (.t 3)⟩,
  ⟨(some 5), none, .call (.c (.fn 241 [] [])) [(.t 4)]⟩,
  ⟨(some 2), none, .mov (.t 5)⟩] [] false)
 .ret)
 .skip)
(.seq
(.reg [⟨(some 6), none, .mov (.t 0)⟩,
 ⟨(some 7), none, .call (.c (.fn 242 [] [])) [(.t 6)]⟩,
 ⟨(some 2), none, .mov (.t 7)⟩] [] false)
.ret)))⟩
-- 174 (topiary/ints.Ints).Get
def n_ints_Ints_Get : Nat := 174
def af_ints_Ints_Get : AF := ⟨31, [.tmp 4, .tmp 5],
(.seq
(.reg [⟨(some 2), none, .box (.t 0)⟩,
 ⟨(some 4), none, .mov (.c (.int .i64 0))⟩,
 ⟨(some 5), none, .mov (.c (.int .i64 0))⟩] [] false)
(.seq
(.seq
(.reg [⟨(some 8), none, .mov (.t 1)⟩,
 ⟨(some 9), none, .bin .lss (.t 8) (.c (.int .i64 0))⟩,
 ⟨(some 10), none, .mov (.t 9)⟩,
 ⟨(some 11), (some (10, false)), .mov (.t 1)⟩,
 ⟨(some 12), (some (10, false)), .fad 0 (.t 2)⟩,
 ⟨(some 13), (some (10, false)), .load false 1 (.t 12)⟩,
 ⟨(some 14), (some (10, false)), .bin .geq (.t 11) (.t 13)⟩,
 ⟨(some 15), none, .pick (.t 10) (.c (.bool true)) (.t 14)⟩] [] false)
(.cond (.t 15)
 (.seq
 (.reg [⟨(some 4), none, .mov (.c (.int .i64 0))⟩,
  ⟨(some 5), none, .mov (.c (.int .i64 13))⟩] [] false)
 .ret)
 .skip))
(.seq
(.reg [⟨(some 17), none, .fad 2 (.t 2)⟩,
 ⟨(some 18), none, .load true 2 (.t 17)⟩,
 ⟨(some 19), none, .mov (.t 1)⟩,
 ⟨(some 20), none, .fad 1 (.t 2)⟩,
 ⟨(some 21), none, .load false 1 (.t 20)⟩,
 ⟨(some 22), none, .bin .mul (.t 19) (.t 21)⟩,
 ⟨(some 23), none, .fad 1 (.t 2)⟩,
 ⟨(some 24), none, .load false 1 (.t 23)⟩,
 ⟨(some 25), none, .call (.c (.fn 194 [] [])) [(.t 18), (.t 22), (.t 24)]⟩,
 ⟨(some 16), none, .mov (.t 25)⟩,
 ⟨(some 26), none, .ext (.t 16) 0⟩,
 ⟨(some 27), none, .ext (.t 16) 1⟩,
 ⟨(some 6), none, .mov (.t 26)⟩,
 ⟨(some 7), none, .mov (.t 27)⟩] [] false)
(.seq
(.reg [⟨(some 28), none, .mov (.t 6)⟩,
 ⟨(some 29), none, .conv .i64 (.t 28)⟩,
 ⟨(some 30), none, .mov (.t 7)⟩,
 ⟨(some 4), none, .mov (.t 29)⟩,
 ⟨(some 5), none, .mov (.t 30)⟩] [] false)
.ret))))⟩
-- 177 slices.IndexFunc[[]int,int]
def n_slices_IndexFunc_int : Nat := 177
def af_slices_IndexFunc_int : AF := ⟨19, [.tmp 4],
(.seq
(.reg [⟨(some 4), none, .mov (.c (.int .i64 0))⟩] [] false)
(.seq
(.seq
(.reg [⟨(some 6), none, .mov (.t 0)⟩,
 ⟨(some 7), none, .len (.t 6)⟩,
 ⟨(some 8), none, .mov (.c (.int .i64 0))⟩] [] false)
(.block 0
 (.loop
  (.seq
  (.reg [⟨(some 9), none, .bin .lss (.t 8) (.t 7)⟩] [] false)
  (.seq
  (.cond (.t 9)
   .skip
   (.exit 0))
  (.seq
  (.block 1
   (.seq
   (.reg [⟨(some 10), none, .mov (.t 8)⟩,
    ⟨(some 5), none, .mov (.t 10)⟩] [] false)
   (.seq
   (.reg [⟨(some 11), none, .mov (.t 1)⟩,
    ⟨(some 12), none, .mov (.t 0)⟩,
    ⟨(some 13), none, .mov (.t 5)⟩,
    ⟨(some 14), none, .idx 1 (.t 12) (.t 13)⟩,
    ⟨(some 15), none, .load false 1 (.t 14)⟩,
    ⟨(some 16), none, .call (.t 11) [(.t 15)]⟩] [] false)
   (.cond (.t 16)
    (.seq
    (.reg [⟨(some 17), none, .mov (.t 5)⟩,
     ⟨(some 4), none, .mov (.t 17)⟩] [] false)
    .ret)
    .skip))))
  (.reg [⟨(some 18), none, .bin .add (.t 8) (.c (.int .i64 1))⟩,
   ⟨(some 8), none, .mov (.t 18)⟩] [] false)))))))
(.seq
(.reg [⟨(some 4), none, .mov (.c (.int .i64 (-1)))⟩] [] false)
.ret)))⟩
-- 178 (topiary/bits.Bits).Len
def n_bits_Bits_Len : Nat := 178
def af_bits_Bits_Len : AF := ⟨5, [.tmp 2],
(.seq
(.reg [⟨(some 1), none, .box (.t 0)⟩,
 ⟨(some 2), none, .mov (.c (.int .i64 0))⟩] [] false)
(.seq
(.reg [⟨(some 3), none, .fad 0 (.t 1)⟩,
 ⟨(some 4), none, .load false 1 (.t 3)⟩,
 ⟨(some 2), none, .mov (.t 4)⟩] [] false)
.ret))⟩
-- 179 (topiary/bits.Bits).Ones
def n_bits_Bits_Ones : Nat := 179
def af_bits_Bits_Ones : AF := ⟨25, [.tmp 6],
(.seq
(.reg [⟨(some 3), none, .box (.t 0)⟩,
 ⟨(some 6), none, .mov (.c (.int .i64 0))⟩] [] false)
(.seq
(.reg [⟨(some 7), none, .mov (.t 1)⟩,
 ⟨(some 8), none, .mx (.t 7) [(.c (.int .i64 0))]⟩,
 ⟨(some 9), none, .fad 0 (.t 3)⟩,
 ⟨(some 10), none, .load false 1 (.t 9)⟩,
 ⟨(some 11), none, .mn (.t 8) [(.t 10)]⟩,
 ⟨(some 1), none, .mov (.t 11)⟩] [] false)
(.seq
(.reg [⟨(some 12), none, .mov (.t 2)⟩,
 ⟨(some 13), none, .mov (.t 1)⟩,
 ⟨(some 14), none, .mx (.t 12) [(.t 13)]⟩,
 ⟨(some 15), none, .fad 0 (.t 3)⟩,
 ⟨(some 16), none, .load false 1 (.t 15)⟩,
 ⟨(some 17), none, .mn (.t 14) [(.t 16)]⟩,
 ⟨(some 2), none, .mov (.t 17)⟩] [] false)
(.seq
(.reg [⟨(some 18), none, .load true 2 (.t 3)⟩,
 ⟨(some 19), none, .mov (.t 2)⟩,
 ⟨(some 20), none, .call (.c (.fn 245 [] [])) [(.t 18), (.t 19)]⟩,
 ⟨(some 21), none, .load true 2 (.t 3)⟩,
 ⟨(some 22), none, .mov (.t 1)⟩,
 ⟨(some 23), none, .call (.c (.fn 245 [] [])) [(.t 21), (.t 22)]⟩,
 ⟨(some 24), none, .bin .sub (.t 20) (.t 23)⟩,
 ⟨(some 6), none, .mov (.t 24)⟩] [] true)
.ret))))⟩
-- 180 slices.SortStableFunc[[]int,int]
def n_slices_SortStableFunc_int : Nat := 180
def af_slices_SortStableFunc_int : AF := ⟨9, [],
(.reg [⟨(some 4), none, .mov (.t 0)⟩,
 ⟨(some 5), none, .mov (.t 0)⟩,
 ⟨(some 6), none, .len (.t 5)⟩,
 ⟨(some 7), none, .mov (.t 1)⟩,
 ⟨(some 8), none, .call (.c (.fn 246 [] [])) [(.t 4), (.t 6), (.t 7)]⟩] [] false)⟩
-- 181 topiary/wave.parted$1
def n_wave_parted_1 : Nat := 181
def af_wave_parted_1 : AF := ⟨13, [.tmp 5],
(.seq
(.reg [⟨(some 5), none, .mov (.c (.int .i64 0))⟩] [] false)
(.seq
(.reg [⟨(some 6), none, .mov (.t 0)⟩,
 ⟨(some 7), none, .load false 1 (.t 2)⟩,
 ⟨(some 8), none, .bin .shr (.t 6) (.t 7)⟩,
 ⟨(some 9), none, .mov (.t 1)⟩,
 ⟨(some 10), none, .load false 1 (.t 2)⟩,
 ⟨(some 11), none, .bin .shr (.t 9) (.t 10)⟩,
 ⟨(some 12), none, .bin .sub (.t 8) (.t 11)⟩,
 ⟨(some 5), none, .mov (.t 12)⟩] [] false)
.ret))⟩
-- 182 topiary/ints.Pack$1
def n_ints_Pack_1 : Nat := 182
def af_ints_Pack_1 : AF := ⟨12, [.tmp 3],
(.seq
(.reg [⟨(some 3), none, .mov (.c (.bool false))⟩] [] false)
(.seq
(.reg [⟨(some 4), none, .mov (.t 0)⟩,
 ⟨(some 5), none, .bin .lss (.t 4) (.c (.int .i64 0))⟩,
 ⟨(some 6), none, .mov (.t 5)⟩,
 ⟨(some 7), (some (6, false)), .mov (.t 0)⟩,
 ⟨(some 8), (some (6, false)), .call (.c (.fn 120 [] [])) [(.t 7)]⟩,
 ⟨(some 9), (some (6, false)), .load false 1 (.t 1)⟩,
 ⟨(some 10), (some (6, false)), .bin .gtr (.t 8) (.t 9)⟩,
 ⟨(some 11), none, .pick (.t 6) (.c (.bool true)) (.t 10)⟩,
 ⟨(some 3), none, .mov (.t 11)⟩] [] true)
.ret))⟩
-- 183 (*topiary/bits.Builder).Put
def n_bits_Builder_Put : Nat := 183
def af_bits_Builder_Put : AF := ⟨28, [.tmp 6],
(.seq
(.reg [⟨(some 6), none, .mov (.c (.int .i64 0))⟩] [] false)
(.seq
(.seq
(.reg [⟨(some 8), none, .mov (.t 0)⟩,
 ⟨(some 9), none, .eqn false (.t 8)⟩,
 ⟨(some 10), none, .mov (.t 9)⟩,
 ⟨(some 11), (some (10, false)), .mov (.t 1)⟩,
 ⟨(some 12), (some (10, false)), .mov (.t 2)⟩,
 ⟨(some 13), (some (10, false)), .call (.c (.fn 247 [] [])) [(.t 11), (.t 12)]⟩,
 ⟨(some 14), (some (10, false)), .un .not (.t 13)⟩,
 ⟨(some 15), none, .pick (.t 10) (.c (.bool true)) (.t 14)⟩] [] false)
(.cond (.t 15)
 (.seq
 (.reg [⟨(some 6), none, .mov (.c (.int .i64 1))⟩] [] false)
 .ret)
 .skip))
(.seq
(.seq
(.reg [⟨(some 16), none, .mov (.t 2)⟩,
 ⟨(some 17), none, .mov (.c (.int .i64 0))⟩] [] false)
(.block 0
 (.loop
  (.seq
  (.reg [⟨(some 18), none, .bin .lss (.t 17) (.t 16)⟩] [] false)
  (.seq
  (.cond (.t 18)
   .skip
   (.exit 0))
  (.seq
  (.block 1
   (.seq
   (.reg [⟨(some 19), none, .mov (.t 17)⟩,
    ⟨(some 7), none, .mov (.t 19)⟩] [] false)
   (.reg [⟨(some 20), none, .mov (.t 0)⟩,
    ⟨(some 21), none, .mov (.t 1)⟩,
    ⟨(some 22), none, .mov (.t 7)⟩,
    ⟨(some 23), none, .bin .shr (.t 21) (.t 22)⟩,
    ⟨(some 24), none, .bin .and (.t 23) (.c (.int .u64 1))⟩,
    ⟨(some 25), none, .bin .eql (.t 24) (.c (.int .u64 1))⟩,
    ⟨(some 26), none, .call (.c (.fn 115 [] [])) [(.t 20), (.t 25)]⟩] [] false)))
  (.reg [⟨(some 27), none, .bin .add (.t 17) (.c (.int .i64 1))⟩,
   ⟨(some 17), none, .mov (.t 27)⟩] [] false)))))))
(.seq
(.reg [⟨(some 6), none, .mov (.c (.int .i64 0))⟩] [] false)
.ret))))⟩
-- 189 (topiary/wave.Wave).Get
def n_wave_Wave_Get : Nat := 189
def af_wave_Wave_Get : AF := ⟨47, [.tmp 4, .tmp 5],
(.seq
(.reg [⟨(some 2), none, .box (.t 0)⟩,
 ⟨(some 4), none, .mov (.c (.int .i64 0))⟩,
 ⟨(some 5), none, .mov (.c (.int .i64 0))⟩] [] false)
(.seq
(.seq
(.reg [⟨(some 11), none, .mov (.t 1)⟩,
 ⟨(some 12), none, .bin .lss (.t 11) (.c (.int .i64 0))⟩,
 ⟨(some 13), none, .mov (.t 12)⟩,
 ⟨(some 14), (some (13, false)), .mov (.t 1)⟩,
 ⟨(some 15), (some (13, false)), .fad 0 (.t 2)⟩,
 ⟨(some 16), (some (13, false)), .load false 1 (.t 15)⟩,
 ⟨(some 17), (some (13, false)), .bin .geq (.t 14) (.t 16)⟩,
 ⟨(some 18), none, .pick (.t 13) (.c (.bool true)) (.t 17)⟩] [] false)
(.cond (.t 18)
 (.seq
 (.reg [⟨(some 4), none, .mov (.c (.int .i64 0))⟩,
  ⟨(some 5), none, .mov (.c (.int .i64 13))⟩] [] false)
 .ret)
 .skip))
(.seq
(.reg [⟨(some 19), none, .fad 0 (.t 2)⟩,
 ⟨(some 20), none, .load false 1 (.t 19)⟩,
 ⟨(some 21), none, .build [(.int .i64 0), (.int .i64 0)] [(0, 1, (.c (.int .i64 0))), (1, 1, (.t 20))]⟩,
 ⟨(some 6), none, .alc (.agg [(.int .i64 0), (.int .i64 0)])⟩,
 ⟨none, none, .store 2 (.t 6) (.t 21)⟩] [] false)
(.seq
(.reg [⟨(some 7), none, .mov (.c (.int .i64 0))⟩] [] false)
(.seq
(.seq
(.reg [⟨(some 22), none, .fad 2 (.t 2)⟩,
 ⟨(some 23), none, .load false 1 (.t 22)⟩,
 ⟨(some 24), none, .len (.t 23)⟩,
 ⟨(some 25), none, .mov (.c (.int .i64 0))⟩] [] false)
(.block 0
 (.loop
  (.seq
  (.reg [⟨(some 26), none, .bin .lss (.t 25) (.t 24)⟩] [] false)
  (.seq
  (.cond (.t 26)
   .skip
   (.exit 0))
  (.seq
  (.block 1
   (.seq
   (.reg [⟨(some 27), none, .idx 7 (.t 23) (.t 25)⟩,
    ⟨(some 28), none, .load true 7 (.t 27)⟩,
    ⟨(some 9), none, .alc (.agg [(.int .i64 0), (.sl true []), (.int .i64 0), (.int .i64 0), (.int .i64 0), (.int .i64 0), (.sl true [])])⟩,
    ⟨none, none, .store 7 (.t 9) (.t 28)⟩] [] false)
   (.seq
   (.reg [⟨(some 29), none, .load true 7 (.t 9)⟩,
    ⟨(some 30), none, .mov (.t 1)⟩,
    ⟨(some 31), none, .call (.c (.fn 244 [] [])) [(.t 29), (.t 30)]⟩,
    ⟨(some 10), none, .mov (.t 31)⟩] [] false)
   (.seq
   (.reg [⟨(some 32), none, .mov (.t 7)⟩,
    ⟨(some 33), none, .bin .mul (.c (.int .i64 2)) (.t 32)⟩,
    ⟨(some 34), none, .mov (.t 10)⟩,
    ⟨(some 35), none, .bin .add (.t 33) (.t 34)⟩,
    ⟨(some 7), none, .mov (.t 35)⟩] [] false)
   (.reg [⟨(some 36), none, .load true 2 (.t 6)⟩,
    ⟨(some 37), none, .load true 7 (.t 9)⟩,
    ⟨(some 38), none, .mov (.t 10)⟩,
    ⟨(some 39), none, .mov (.t 1)⟩,
    ⟨(some 40), none, .call (.c (.fn 199 [] [])) [(.t 36), (.t 37), (.t 38), (.t 39)]⟩,
    ⟨(some 41), none, .load true 2 (.t 6)⟩,
    ⟨(some 42), none, .load true 7 (.t 9)⟩,
    ⟨(some 43), none, .mov (.t 10)⟩,
    ⟨(some 44), none, .call (.c (.fn 200 [] [])) [(.t 41), (.t 42), (.t 43)]⟩,
    ⟨(some 1), none, .mov (.t 40)⟩,
    ⟨none, none, .store 2 (.t 6) (.t 44)⟩] [] true)))))
  (.reg [⟨(some 45), none, .bin .add (.t 25) (.c (.int .i64 1))⟩,
   ⟨(some 25), none, .mov (.t 45)⟩] [] false)))))))
(.seq
(.reg [⟨(some 46), none, .mov (.t 7)⟩,
 ⟨(some 4), none, .mov (.t 46)⟩,
 ⟨(some 5), none, .mov (.c (.int .i64 0))⟩] [] false)
.ret))))))⟩
-- 191 sort.Search
def n_sort_Search : Nat := 191
def af_sort_Search : AF := ⟨26, [.tmp 4],
(.seq
(.reg [⟨(some 4), none, .mov (.c (.int .i64 0))⟩] [] false)
(.seq
(.reg [⟨(some 8), none, .mov (.t 0)⟩,
 ⟨(some 5), none, .mov (.c (.int .i64 0))⟩,
 ⟨(some 6), none, .mov (.t 8)⟩] [] false)
(.seq
(.block 0
 (.loop
  (.seq
  (.seq
  (.reg [⟨(some 9), none, .mov (.t 5)⟩,
   ⟨(some 10), none, .mov (.t 6)⟩,
   ⟨(some 11), none, .bin .lss (.t 9) (.t 10)⟩] [] false)
  (.cond (.t 11)
   .skip
   (.exit 0)))
  (.block 1
   (.seq
   (.reg [⟨(some 12), none, .mov (.t 5)⟩,
    ⟨(some 13), none, .mov (.t 6)⟩,
    ⟨(some 14), none, .bin .add (.t 12) (.t 13)⟩,
    ⟨(some 15), none, .conv .u64 (.t 14)⟩,
    ⟨(some 16), none, .bin .shr (.t 15) (.c (.int .u64 1))⟩,
    ⟨(some 17), none, .conv .i64 (.t 16)⟩,
    ⟨(some 7), none, .mov (.t 17)⟩] [] false)
   (.seq
   (.reg [⟨(some 18), none, .mov (.t 1)⟩,
    ⟨(some 19), none, .mov (.t 7)⟩,
    ⟨(some 20), none, .call (.t 18) [(.t 19)]⟩,
    ⟨(some 21), none, .un .not (.t 20)⟩] [] false)
   (.cond (.t 21)
    (.reg [⟨(some 22), none, .mov (.t 7)⟩,
     ⟨(some 23), none, .bin .add (.t 22) (.c (.int .i64 1))⟩,
     ⟨(some 5), none, .mov (.t 23)⟩] [] false)
    (.reg [⟨(some 24), none, .mov (.t 7)⟩,
     ⟨(some 6), none, .mov (.t 24)⟩] [] false))))))))
(.seq
(.reg [⟨(some 25), none, .mov (.t 5)⟩,
 ⟨(some 4), none, .mov (.t 25)⟩] [] false)
.ret))))⟩
-- 192 (topiary/nav.Nav).above$1
def n_nav_Nav_above_1 : Nat := 192
def af_nav_Nav_above_1 : AF := ⟨11, [.tmp 4],
(.seq
(.reg [⟨(some 4), none, .mov (.c (.bool false))⟩] [] false)
(.seq
(.reg [⟨(some 5), none, .load true 19 (.t 1)⟩,
 ⟨(some 6), none, .mov (.t 0)⟩,
 ⟨(some 7), none, .bin .add (.t 6) (.c (.int .i64 1))⟩,
 ⟨(some 8), none, .call (.c (.fn 75 [] [])) [(.t 5), (.t 7)]⟩,
 ⟨(some 9), none, .load false 1 (.t 2)⟩,
 ⟨(some 10), none, .bin .gtr (.t 8) (.t 9)⟩,
 ⟨(some 4), none, .mov (.t 10)⟩] [] true)
.ret))⟩
-- 193 (topiary/rank.Rank).Len
def n_rank_Rank_Len : Nat := 193
def af_rank_Rank_Len : AF := ⟨6, [.tmp 2],
(.seq
(.reg [⟨(some 1), none, .box (.t 0)⟩,
 ⟨(some 2), none, .mov (.c (.int .i64 0))⟩] [] false)
(.seq
(.reg [⟨(some 3), none, .fad 0 (.t 1)⟩,
 ⟨(some 4), none, .load true 2 (.t 3)⟩,
 ⟨(some 5), none, .call (.c (.fn 178 [] [])) [(.t 4)]⟩,
 ⟨(some 2), none, .mov (.t 5)⟩] [] false)
.ret))⟩
end Go.Am
