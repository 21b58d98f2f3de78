/- Functions of the program as code of the plain machine. Printed by program. -/
import Derived.Test.YtfekfnapgfddbaaGreatAk1
set_option maxRecDepth 100000
set_option linter.unusedVariables false
namespace Go.Am
open Go
-- 194 (topiary/bits.Bits).Number
def n_bits_Bits_Number : Nat := 194
def af_bits_Bits_Number : AF := ⟨75, [.tmp 6, .tmp 7],
(.seq
(.reg [⟨(some 3), none, .box (.t 0)⟩,
 ⟨(some 6), none, .mov (.c (.int .u64 0))⟩,
 ⟨(some 7), none, .mov (.c (.int .i64 0))⟩] [] false)
(.scope
 (.seq
 (.block 0
  (.seq
  (.reg [⟨(some 14), none, .mov (.t 2)⟩,
   ⟨(some 15), none, .bin .lss (.t 14) (.c (.int .i64 0))⟩,
   ⟨(some 16), none, .mov (.t 15)⟩,
   ⟨(some 17), (some (16, false)), .mov (.t 2)⟩,
   ⟨(some 18), (some (16, false)), .bin .gtr (.t 17) (.c (.int .i64 64))⟩,
   ⟨(some 19), none, .pick (.t 16) (.c (.bool true)) (.t 18)⟩,
   ⟨(some 13), none, .mov (.t 19)⟩] [] false)
  (.cond (.t 13)
   (.seq
   (.reg [⟨(some 6), none, .mov (.c (.int .u64 0))⟩,
    ⟨(some 7), none, .mov (.c (.int .i64 1))⟩] [] false)
   .ret)
   (.seq
   (.reg [⟨(some 21), none, .mov (.t 1)⟩,
    ⟨(some 22), none, .bin .lss (.t 21) (.c (.int .i64 0))⟩,
    ⟨(some 23), none, .mov (.t 22)⟩,
    ⟨(some 24), (some (23, false)), .mov (.t 1)⟩,
    ⟨(some 25), (some (23, false)), .fad 0 (.t 3)⟩,
    ⟨(some 26), (some (23, false)), .load false 1 (.t 25)⟩,
    ⟨(some 27), (some (23, false)), .bin .gtr (.t 24) (.t 26)⟩,
    ⟨(some 28), none, .pick (.t 23) (.c (.bool true)) (.t 27)⟩,
    ⟨(some 29), none, .mov (.t 28)⟩,
    ⟨(some 30), (some (29, false)), .mov (.t 2)⟩,
    ⟨(some 31), (some (29, false)), .fad 0 (.t 3)⟩,
    ⟨(some 32), (some (29, false)), .load false 1 (.t 31)⟩,
    ⟨(some 33), (some (29, false)), .mov (.t 1)⟩,
    ⟨(some 34), (some (29, false)), .bin .sub (.t 32) (.t 33)⟩,
    ⟨(some 35), (some (29, false)), .bin .gtr (.t 30) (.t 34)⟩,
    ⟨(some 36), none, .pick (.t 29) (.c (.bool true)) (.t 35)⟩,
    ⟨(some 20), none, .mov (.t 36)⟩] [] false)
   (.cond (.t 20)
    (.seq
    (.reg [⟨(some 6), none, .mov (.c (.int .u64 0))⟩,
     ⟨(some 7), none, .mov (.c (.int .i64 13))⟩] [] false)
    .ret)
    .skip)))))
 (.seq
 (.reg [⟨(some 8), none, .mov (.c (.int .u64 0))⟩] [] false)
 (.seq
 (.reg [⟨(some 9), none, .mov (.c (.int .i64 0))⟩] [] false)
 (.seq
 .skip
 (.seq
 (.block 1
  (.loop
   (.block 2
    (.seq
    (.seq
    (.reg [⟨(some 37), none, .mov (.t 9)⟩,
     ⟨(some 38), none, .mov (.t 2)⟩,
     ⟨(some 39), none, .bin .eql (.t 37) (.t 38)⟩] [] false)
    (.cond (.t 39)
     (.exit 1)
     .skip))
    (.seq
    (.reg [⟨(some 40), none, .mov (.t 1)⟩,
     ⟨(some 41), none, .mov (.t 9)⟩,
     ⟨(some 42), none, .bin .add (.t 40) (.t 41)⟩,
     ⟨(some 10), none, .mov (.t 42)⟩] [] false)
    (.seq
    (.reg [⟨(some 43), none, .mov (.t 10)⟩,
     ⟨(some 44), none, .bin .rem (.t 43) (.c (.int .i64 64))⟩,
     ⟨(some 45), none, .bin .sub (.c (.int .i64 64)) (.t 44)⟩,
     ⟨(some 46), none, .mov (.t 2)⟩,
     ⟨(some 47), none, .mov (.t 9)⟩,
     ⟨(some 48), none, .bin .sub (.t 46) (.t 47)⟩,
     ⟨(some 49), none, .mn (.t 45) [(.t 48)]⟩,
     ⟨(some 11), none, .mov (.t 49)⟩] [] false)
    (.seq
    (.reg [⟨(some 50), none, .fad 1 (.t 3)⟩,
     ⟨(some 51), none, .load false 1 (.t 50)⟩,
     ⟨(some 52), none, .mov (.t 10)⟩,
     ⟨(some 53), none, .bin .quo (.t 52) (.c (.int .i64 64))⟩,
     ⟨(some 54), none, .idx 1 (.t 51) (.t 53)⟩,
     ⟨(some 55), none, .load false 1 (.t 54)⟩,
     ⟨(some 56), none, .mov (.t 10)⟩,
     ⟨(some 57), none, .bin .rem (.t 56) (.c (.int .i64 64))⟩,
     ⟨(some 58), none, .bin .shr (.t 55) (.t 57)⟩,
     ⟨(some 12), none, .mov (.t 58)⟩] [] false)
    (.seq
    (.seq
    (.reg [⟨(some 59), none, .mov (.t 11)⟩,
     ⟨(some 60), none, .bin .lss (.t 59) (.c (.int .i64 64))⟩] [] false)
    (.cond (.t 60)
     (.reg [⟨(some 61), none, .mov (.t 12)⟩,
      ⟨(some 62), none, .mov (.t 11)⟩,
      ⟨(some 63), none, .bin .shl (.c (.int .u64 1)) (.t 62)⟩,
      ⟨(some 64), none, .bin .sub (.t 63) (.c (.int .u64 1))⟩,
      ⟨(some 65), none, .bin .and (.t 61) (.t 64)⟩,
      ⟨(some 12), none, .mov (.t 65)⟩] [] false)
     .skip))
    (.seq
    (.reg [⟨(some 66), none, .mov (.t 8)⟩,
     ⟨(some 67), none, .mov (.t 12)⟩,
     ⟨(some 68), none, .mov (.t 9)⟩,
     ⟨(some 69), none, .bin .shl (.t 67) (.t 68)⟩,
     ⟨(some 70), none, .bin .or (.t 66) (.t 69)⟩,
     ⟨(some 8), none, .mov (.t 70)⟩] [] false)
    (.reg [⟨(some 71), none, .mov (.t 9)⟩,
     ⟨(some 72), none, .mov (.t 11)⟩,
     ⟨(some 73), none, .bin .add (.t 71) (.t 72)⟩,
     ⟨(some 9), none, .mov (.t 73)⟩] [] false))))))))))
 (.seq
 (.reg [⟨(some 74), none, .mov (.t 8)⟩,
  ⟨(some 6), none, .mov (.t 74)⟩,
  ⟨(some 7), none, .mov (.c (.int .i64 0))⟩] [] false)
 .ret))))))))⟩
-- 195 (topiary/rank.Rank).find
def n_rank_Rank_find : Nat := 195
def af_rank_Rank_find : AF := ⟨38, [.tmp 8],
(.seq
(.reg [⟨(some 4), none, .box (.t 0)⟩,
 ⟨(some 8), none, .mov (.c (.int .i64 0))⟩] [] false)
(.scope
 (.seq
 (.seq
 (.reg [⟨(some 12), none, .mov (.t 1)⟩,
  ⟨(some 13), none, .bin .lss (.t 12) (.c (.int .i64 0))⟩,
  ⟨(some 14), none, .mov (.t 13)⟩,
  ⟨(some 15), (some (14, false)), .mov (.t 1)⟩,
  ⟨(some 16), (some (14, false)), .mov (.t 2)⟩,
  ⟨(some 17), (some (14, false)), .bin .geq (.t 15) (.t 16)⟩,
  ⟨(some 18), none, .pick (.t 14) (.c (.bool true)) (.t 17)⟩] [] false)
 (.cond (.t 18)
  (.seq
  (.reg [⟨(some 8), none, .mov (.c (.int .i64 (-1)))⟩] [] false)
  .ret)
  .skip))
 (.seq
 (.reg [⟨(some 19), none, .load true 7 (.t 4)⟩,
  ⟨(some 20), none, .call (.c (.fn 193 [] [])) [(.t 19)]⟩,
  ⟨(some 9), none, .mov (.c (.int .i64 0))⟩,
  ⟨(some 10), none, .mov (.t 20)⟩] [] false)
 (.seq
 .skip
 (.seq
 (.block 0
  (.loop
   (.block 1
    (.seq
    (.seq
    (.reg [⟨(some 21), none, .mov (.t 9)⟩,
     ⟨(some 22), none, .mov (.t 10)⟩,
     ⟨(some 23), none, .bin .geq (.t 21) (.t 22)⟩] [] false)
    (.cond (.t 23)
     (.exit 0)
     .skip))
    (.seq
    (.reg [⟨(some 24), none, .mov (.t 9)⟩,
     ⟨(some 25), none, .mov (.t 10)⟩,
     ⟨(some 26), none, .bin .add (.t 24) (.t 25)⟩,
     ⟨(some 27), none, .bin .quo (.t 26) (.c (.int .i64 2))⟩,
     ⟨(some 11), none, .mov (.t 27)⟩] [] false)
    (.seq
    (.reg [⟨(some 28), none, .mov (.t 3)⟩,
     ⟨(some 29), none, .mov (.t 11)⟩,
     ⟨(some 30), none, .bin .add (.t 29) (.c (.int .i64 1))⟩,
     ⟨(some 31), none, .call (.t 28) [(.t 30)]⟩,
     ⟨(some 32), none, .mov (.t 1)⟩,
     ⟨(some 33), none, .bin .gtr (.t 31) (.t 32)⟩] [] false)
    (.cond (.t 33)
     (.reg [⟨(some 34), none, .mov (.t 11)⟩,
      ⟨(some 10), none, .mov (.t 34)⟩] [] false)
     (.reg [⟨(some 35), none, .mov (.t 11)⟩,
      ⟨(some 36), none, .bin .add (.t 35) (.c (.int .i64 1))⟩,
      ⟨(some 9), none, .mov (.t 36)⟩] [] false))))))))
 (.seq
 (.reg [⟨(some 37), none, .mov (.t 9)⟩,
  ⟨(some 8), none, .mov (.t 37)⟩] [] false)
 .ret)))))))⟩
-- 196 (topiary/rank.Rank).Select1$1
def n_rank_Rank_Select1_1 : Nat := 196
def af_rank_Rank_Select1_1 : AF := ⟨7, [.tmp 3],
(.seq
(.reg [⟨(some 3), none, .mov (.c (.int .i64 0))⟩] [] false)
(.seq
(.reg [⟨(some 4), none, .load true 7 (.t 1)⟩,
 ⟨(some 5), none, .mov (.t 0)⟩,
 ⟨(some 6), none, .call (.c (.fn 136 [] [])) [(.t 4), (.t 5)]⟩,
 ⟨(some 3), none, .mov (.t 6)⟩] [] false)
.ret))⟩
-- 197 (topiary/wave.Wave).is
def n_wave_Wave_is : Nat := 197
def af_wave_Wave_is : AF := ⟨13, [.tmp 4],
(.seq
(.reg [⟨(some 2), none, .box (.t 0)⟩,
 ⟨(some 4), none, .mov (.c (.bool false))⟩] [] false)
(.seq
(.reg [⟨(some 5), none, .mov (.t 1)⟩,
 ⟨(some 6), none, .bin .geq (.t 5) (.c (.int .i64 0))⟩,
 ⟨(some 7), none, .mov (.t 6)⟩,
 ⟨(some 8), (some (7, true)), .mov (.t 1)⟩,
 ⟨(some 9), (some (7, true)), .fad 1 (.t 2)⟩,
 ⟨(some 10), (some (7, true)), .load false 1 (.t 9)⟩,
 ⟨(some 11), (some (7, true)), .bin .lss (.t 8) (.t 10)⟩,
 ⟨(some 12), none, .pick (.t 7) (.t 11) (.c (.bool false))⟩,
 ⟨(some 4), none, .mov (.t 12)⟩] [] false)
.ret))⟩
-- 198 (topiary/wave.Wave).bit
def n_wave_Wave_bit : Nat := 198
def af_wave_Wave_bit : AF := ⟨16, [.tmp 6],
(.seq
(.reg [⟨(some 3), none, .box (.t 0)⟩,
 ⟨(some 6), none, .mov (.c (.int .i64 0))⟩] [] false)
(.seq
(.reg [⟨(some 7), none, .mov (.t 1)⟩,
 ⟨(some 8), none, .fad 2 (.t 3)⟩,
 ⟨(some 9), none, .load false 1 (.t 8)⟩,
 ⟨(some 10), none, .len (.t 9)⟩,
 ⟨(some 11), none, .bin .sub (.t 10) (.c (.int .i64 1))⟩,
 ⟨(some 12), none, .mov (.t 2)⟩,
 ⟨(some 13), none, .bin .sub (.t 11) (.t 12)⟩,
 ⟨(some 14), none, .bin .shr (.t 7) (.t 13)⟩,
 ⟨(some 15), none, .bin .and (.t 14) (.c (.int .i64 1))⟩,
 ⟨(some 6), none, .mov (.t 15)⟩] [] false)
.ret))⟩
-- 199 (topiary/wave.part).place
def n_wave_part_place : Nat := 199
def af_wave_part_place : AF := ⟨38, [.tmp 8],
(.seq
(.reg [⟨(some 4), none, .box (.t 0)⟩,
 ⟨(some 5), none, .box (.t 1)⟩,
 ⟨(some 8), none, .mov (.c (.int .i64 0))⟩] [] false)
(.seq
(.reg [⟨(some 10), none, .load true 2 (.t 4)⟩,
 ⟨(some 11), none, .load true 7 (.t 5)⟩,
 ⟨(some 12), none, .mov (.t 2)⟩,
 ⟨(some 13), none, .call (.c (.fn 200 [] [])) [(.t 10), (.t 11), (.t 12)]⟩,
 ⟨(some 9), none, .alc (.agg [(.int .i64 0), (.int .i64 0)])⟩,
 ⟨none, none, .store 2 (.t 9) (.t 13)⟩] [] false)
(.seq
(.seq
(.reg [⟨(some 14), none, .mov (.t 2)⟩,
 ⟨(some 15), none, .bin .eql (.t 14) (.c (.int .i64 0))⟩] [] false)
(.cond (.t 15)
 (.seq
 (.reg [⟨(some 16), none, .fad 0 (.t 9)⟩,
  ⟨(some 17), none, .load false 1 (.t 16)⟩,
  ⟨(some 18), none, .load true 7 (.t 5)⟩,
  ⟨(some 19), none, .mov (.t 3)⟩,
  ⟨(some 20), none, .call (.c (.fn 203 [] [])) [(.t 18), (.t 19)]⟩,
  ⟨(some 21), none, .bin .add (.t 17) (.t 20)⟩,
  ⟨(some 22), none, .load true 7 (.t 5)⟩,
  ⟨(some 23), none, .fad 0 (.t 4)⟩,
  ⟨(some 24), none, .load false 1 (.t 23)⟩,
  ⟨(some 25), none, .call (.c (.fn 203 [] [])) [(.t 22), (.t 24)]⟩,
  ⟨(some 26), none, .bin .sub (.t 21) (.t 25)⟩,
  ⟨(some 8), none, .mov (.t 26)⟩] [] true)
 .ret)
 .skip))
(.seq
(.reg [⟨(some 27), none, .fad 0 (.t 9)⟩,
 ⟨(some 28), none, .load false 1 (.t 27)⟩,
 ⟨(some 29), none, .load true 7 (.t 5)⟩,
 ⟨(some 30), none, .mov (.t 3)⟩,
 ⟨(some 31), none, .call (.c (.fn 136 [] [])) [(.t 29), (.t 30)]⟩,
 ⟨(some 32), none, .bin .add (.t 28) (.t 31)⟩,
 ⟨(some 33), none, .load true 7 (.t 5)⟩,
 ⟨(some 34), none, .fad 0 (.t 4)⟩,
 ⟨(some 35), none, .load false 1 (.t 34)⟩,
 ⟨(some 36), none, .call (.c (.fn 136 [] [])) [(.t 33), (.t 35)]⟩,
 ⟨(some 37), none, .bin .sub (.t 32) (.t 36)⟩,
 ⟨(some 8), none, .mov (.t 37)⟩] [] true)
.ret))))⟩
-- 200 (topiary/wave.part).down
def n_wave_part_down : Nat := 200
def af_wave_part_down : AF := ⟨33, [.cell 6 true 2],
(.seq
(.reg [⟨(some 3), none, .box (.t 0)⟩,
 ⟨(some 4), none, .box (.t 1)⟩,
 ⟨(some 6), none, .alc (.agg [(.int .i64 0), (.int .i64 0)])⟩] [] false)
(.seq
(.reg [⟨(some 8), none, .load true 7 (.t 4)⟩,
 ⟨(some 9), none, .fad 1 (.t 3)⟩,
 ⟨(some 10), none, .load false 1 (.t 9)⟩,
 ⟨(some 11), none, .call (.c (.fn 203 [] [])) [(.t 8), (.t 10)]⟩,
 ⟨(some 12), none, .load true 7 (.t 4)⟩,
 ⟨(some 13), none, .fad 0 (.t 3)⟩,
 ⟨(some 14), none, .load false 1 (.t 13)⟩,
 ⟨(some 15), none, .call (.c (.fn 203 [] [])) [(.t 12), (.t 14)]⟩,
 ⟨(some 16), none, .bin .sub (.t 11) (.t 15)⟩,
 ⟨(some 7), none, .mov (.t 16)⟩] [] true)
(.seq
(.seq
(.reg [⟨(some 17), none, .mov (.t 2)⟩,
 ⟨(some 18), none, .bin .eql (.t 17) (.c (.int .i64 0))⟩] [] false)
(.cond (.t 18)
 (.seq
 (.reg [⟨(some 19), none, .fad 0 (.t 3)⟩,
  ⟨(some 20), none, .load false 1 (.t 19)⟩,
  ⟨(some 21), none, .fad 0 (.t 3)⟩,
  ⟨(some 22), none, .load false 1 (.t 21)⟩,
  ⟨(some 23), none, .mov (.t 7)⟩,
  ⟨(some 24), none, .bin .add (.t 22) (.t 23)⟩,
  ⟨(some 25), none, .build [(.int .i64 0), (.int .i64 0)] [(0, 1, (.t 20)), (1, 1, (.t 24))]⟩,
  ⟨none, none, .store 2 (.t 6) (.t 25)⟩] [] false)
 .ret)
 .skip))
(.seq
(.reg [⟨(some 26), none, .fad 0 (.t 3)⟩,
 ⟨(some 27), none, .load false 1 (.t 26)⟩,
 ⟨(some 28), none, .mov (.t 7)⟩,
 ⟨(some 29), none, .bin .add (.t 27) (.t 28)⟩,
 ⟨(some 30), none, .fad 1 (.t 3)⟩,
 ⟨(some 31), none, .load false 1 (.t 30)⟩,
 ⟨(some 32), none, .build [(.int .i64 0), (.int .i64 0)] [(0, 1, (.t 29)), (1, 1, (.t 31))]⟩,
 ⟨none, none, .store 2 (.t 6) (.t 32)⟩] [] false)
.ret))))⟩
-- 201 slices.Backward[[]topiary/rank.Rank,topiary/rank.Rank]
def n_slices_Backward_Rank : Nat := 201
def af_slices_Backward_Rank : AF := ⟨4, [.tmp 2],
(.seq
(.reg [⟨(some 1), none, .box (.t 0)⟩,
 ⟨(some 2), none, .mov (.c .undef)⟩] [] false)
(.seq
(.reg [⟨(some 3), none, .mkf 257 [] [(.t 1)]⟩,
 ⟨(some 2), none, .mov (.t 3)⟩] [] false)
.ret))⟩
-- 202 (topiary/rank.Rank).Select0
def n_rank_Rank_Select0 : Nat := 202
def af_rank_Rank_Select0 : AF := ⟨14, [.tmp 4],
(.seq
(.reg [⟨(some 2), none, .box (.t 0)⟩,
 ⟨(some 4), none, .mov (.c (.int .i64 0))⟩] [] false)
(.seq
(.reg [⟨(some 5), none, .load true 7 (.t 2)⟩,
 ⟨(some 6), none, .mov (.t 1)⟩,
 ⟨(some 7), none, .load true 7 (.t 2)⟩,
 ⟨(some 8), none, .call (.c (.fn 193 [] [])) [(.t 7)]⟩,
 ⟨(some 9), none, .fad 2 (.t 2)⟩,
 ⟨(some 10), none, .load false 1 (.t 9)⟩,
 ⟨(some 11), none, .bin .sub (.t 8) (.t 10)⟩,
 ⟨(some 12), none, .mkf 258 [] [(.t 2)]⟩,
 ⟨(some 13), none, .call (.c (.fn 195 [] [])) [(.t 5), (.t 6), (.t 11), (.t 12)]⟩,
 ⟨(some 4), none, .mov (.t 13)⟩] [] true)
.ret))⟩
-- 203 (topiary/rank.Rank).Rank0
def n_rank_Rank_Rank0 : Nat := 203
def af_rank_Rank_Rank0 : AF := ⟨15, [.tmp 4],
(.seq
(.reg [⟨(some 2), none, .box (.t 0)⟩,
 ⟨(some 4), none, .mov (.c (.int .i64 0))⟩] [] false)
(.seq
(.reg [⟨(some 5), none, .mov (.t 1)⟩,
 ⟨(some 6), none, .mx (.t 5) [(.c (.int .i64 0))]⟩,
 ⟨(some 7), none, .load true 7 (.t 2)⟩,
 ⟨(some 8), none, .call (.c (.fn 193 [] [])) [(.t 7)]⟩,
 ⟨(some 9), none, .mn (.t 6) [(.t 8)]⟩,
 ⟨(some 1), none, .mov (.t 9)⟩] [] false)
(.seq
(.reg [⟨(some 10), none, .mov (.t 1)⟩,
 ⟨(some 11), none, .load true 7 (.t 2)⟩,
 ⟨(some 12), none, .mov (.t 1)⟩,
 ⟨(some 13), none, .call (.c (.fn 136 [] [])) [(.t 11), (.t 12)]⟩,
 ⟨(some 14), none, .bin .sub (.t 10) (.t 13)⟩,
 ⟨(some 4), none, .mov (.t 14)⟩] [] false)
.ret)))⟩
-- 204 topiary/order.picked
def n_order_picked : Nat := 204
def af_order_picked : AF := ⟨13, [.tmp 6],
(.seq
(.reg [⟨(some 5), none, .box (.t 2)⟩,
 ⟨(some 6), none, .mov (.c (.sl true []))⟩] [] false)
(.seq
(.reg [⟨(some 7), none, .alc (.sl true [])⟩] [] false)
(.seq
(.reg [⟨(some 8), none, .mov (.t 0)⟩,
 ⟨(some 9), none, .mov (.t 1)⟩,
 ⟨(some 10), none, .mkf 260 [] [(.t 5), (.t 7)]⟩,
 ⟨(some 11), none, .call (.c (.fn 259 [] [])) [(.t 8), (.t 9), (.t 10)]⟩] [] false)
(.seq
(.reg [⟨(some 12), none, .load false 1 (.t 7)⟩,
 ⟨(some 6), none, .mov (.t 12)⟩] [] false)
.ret))))⟩
-- 205 topiary/order.Merge$1
def n_order_Merge_1 : Nat := 205
def af_order_Merge_1 : AF := ⟨5, [.tmp 4],
(.seq
(.reg [⟨(some 4), none, .mov (.c (.bool false))⟩] [] false)
(.seq
(.reg [⟨(some 4), none, .mov (.c (.bool true))⟩] [] false)
.ret))⟩
-- 221 topiary/topiaryref11.Rune
def n_ref11_Rune : Nat := 221
def af_ref11_Rune : AF := ⟨75, [.tmp 4, .tmp 5],
(.seq
(.reg [⟨(some 4), none, .mov (.c (.int .i64 0))⟩,
 ⟨(some 5), none, .mov (.c (.int .i64 0))⟩] [] false)
(.seq
(.seq
(.reg [⟨(some 12), none, .mov (.t 1)⟩,
 ⟨(some 13), none, .bin .lss (.t 12) (.c (.int .i64 0))⟩,
 ⟨(some 14), none, .mov (.t 13)⟩,
 ⟨(some 15), (some (14, false)), .mov (.t 1)⟩,
 ⟨(some 16), (some (14, false)), .mov (.t 0)⟩,
 ⟨(some 17), (some (14, false)), .slen (.t 16)⟩,
 ⟨(some 18), (some (14, false)), .bin .geq (.t 15) (.t 17)⟩,
 ⟨(some 19), none, .pick (.t 14) (.c (.bool true)) (.t 18)⟩] [] false)
(.cond (.t 19)
 (.seq
 (.reg [⟨(some 4), none, .mov (.c (.int .i64 (-1)))⟩,
  ⟨(some 5), none, .mov (.c (.int .i64 0))⟩] [] false)
 .ret)
 .skip))
(.seq
(.seq
(.reg [⟨(some 6), none, .mov (.c (.int .i64 1))⟩] [] false)
(.block 0
 (.loop
  (.seq
  (.seq
  (.reg [⟨(some 20), none, .mov (.t 6)⟩,
   ⟨(some 21), none, .bin .leq (.t 20) (.c (.int .i64 4))⟩,
   ⟨(some 22), none, .mov (.t 21)⟩,
   ⟨(some 23), (some (22, true)), .mov (.t 6)⟩,
   ⟨(some 24), (some (22, true)), .mov (.t 0)⟩,
   ⟨(some 25), (some (22, true)), .slen (.t 24)⟩,
   ⟨(some 26), (some (22, true)), .mov (.t 1)⟩,
   ⟨(some 27), (some (22, true)), .bin .sub (.t 25) (.t 26)⟩,
   ⟨(some 28), (some (22, true)), .bin .leq (.t 23) (.t 27)⟩,
   ⟨(some 29), none, .pick (.t 22) (.t 28) (.c (.bool false))⟩] [] false)
  (.cond (.t 29)
   .skip
   (.exit 0)))
  (.seq
  (.block 1
   (.seq
   (.reg [⟨(some 7), none, .mov (.c (.int .i64 0))⟩] [] false)
   (.seq
   (.seq
   (.reg [⟨(some 8), none, .mov (.c (.int .i64 0))⟩] [] false)
   (.block 2
    (.loop
     (.seq
     (.seq
     (.reg [⟨(some 32), none, .mov (.t 8)⟩,
      ⟨(some 33), none, .mov (.t 6)⟩,
      ⟨(some 34), none, .bin .lss (.t 32) (.t 33)⟩] [] false)
     (.cond (.t 34)
      .skip
      (.exit 2)))
     (.seq
     (.block 3
      (.seq
      (.reg [⟨(some 37), none, .mov (.t 0)⟩,
       ⟨(some 38), none, .mov (.t 1)⟩,
       ⟨(some 39), none, .mov (.t 8)⟩,
       ⟨(some 40), none, .bin .add (.t 38) (.t 39)⟩,
       ⟨(some 41), none, .sidx (.t 37) (.t 40)⟩,
       ⟨(some 42), none, .conv .i64 (.t 41)⟩,
       ⟨(some 9), none, .mov (.t 42)⟩] [] false)
      (.seq
      (.reg [⟨(some 43), none, .mov (.t 8)⟩,
       ⟨(some 44), none, .bin .eql (.t 43) (.c (.int .i64 0))⟩] [] false)
      (.cond (.t 44)
       (.seq
       (.reg [⟨(some 10), none, .mov (.c (.int .i64 0))⟩] [] false)
       (.seq
       (.seq
       (.reg [⟨(some 45), none, .mov (.t 6)⟩,
        ⟨(some 46), none, .bin .eql (.t 45) (.c (.int .i64 2))⟩] [] false)
       (.cond (.t 46)
        (.reg [⟨(some 10), none, .mov (.c (.int .i64 192))⟩] [] false)
        .skip))
       (.seq
       (.seq
       (.reg [⟨(some 47), none, .mov (.t 6)⟩,
        ⟨(some 48), none, .bin .eql (.t 47) (.c (.int .i64 3))⟩] [] false)
       (.cond (.t 48)
        (.reg [⟨(some 10), none, .mov (.c (.int .i64 224))⟩] [] false)
        .skip))
       (.seq
       (.seq
       (.reg [⟨(some 49), none, .mov (.t 6)⟩,
        ⟨(some 50), none, .bin .eql (.t 49) (.c (.int .i64 4))⟩] [] false)
       (.cond (.t 50)
        (.reg [⟨(some 10), none, .mov (.c (.int .i64 240))⟩] [] false)
        .skip))
       (.reg [⟨(some 51), none, .mov (.t 9)⟩,
        ⟨(some 52), none, .mov (.t 10)⟩,
        ⟨(some 53), none, .bin .sub (.t 51) (.t 52)⟩,
        ⟨(some 7), none, .mov (.t 53)⟩] [] false)))))
       (.reg [⟨(some 54), none, .mov (.t 7)⟩,
        ⟨(some 55), none, .bin .mul (.t 54) (.c (.int .i64 64))⟩,
        ⟨(some 56), none, .mov (.t 9)⟩,
        ⟨(some 57), none, .bin .add (.t 55) (.t 56)⟩,
        ⟨(some 58), none, .bin .sub (.t 57) (.c (.int .i64 128))⟩,
        ⟨(some 7), none, .mov (.t 58)⟩] [] false)))))
     (.reg [⟨(some 35), none, .mov (.t 8)⟩,
      ⟨(some 36), none, .bin .add (.t 35) (.c (.int .i64 1))⟩,
      ⟨(some 8), none, .mov (.t 36)⟩] [] false))))))
   (.seq
   (.reg [⟨(some 59), none, .mov (.t 7)⟩,
    ⟨(some 60), none, .call (.c (.fn 266 [] [])) [(.t 59)]⟩,
    ⟨(some 11), none, .mov (.t 60)⟩] [] false)
   (.seq
   (.reg [⟨(some 61), none, .mov (.t 11)⟩,
    ⟨(some 62), none, .bin .neq (.t 61) (.c (.str ⟨#[]⟩))⟩,
    ⟨(some 63), none, .mov (.t 62)⟩,
    ⟨(some 64), (some (63, true)), .mov (.t 11)⟩,
    ⟨(some 65), (some (63, true)), .mov (.t 0)⟩,
    ⟨(some 66), (some (63, true)), .mov (.t 1)⟩,
    ⟨(some 67), (some (63, true)), .mov (.t 1)⟩,
    ⟨(some 68), (some (63, true)), .mov (.t 6)⟩,
    ⟨(some 69), (some (63, true)), .bin .add (.t 67) (.t 68)⟩,
    ⟨(some 70), (some (63, true)), .slc 0 (.t 65) (some (.t 66)) (some (.t 69)) none⟩,
    ⟨(some 71), (some (63, true)), .bin .eql (.t 64) (.t 70)⟩,
    ⟨(some 72), none, .pick (.t 63) (.t 71) (.c (.bool false))⟩] [] false)
   (.cond (.t 72)
    (.seq
    (.reg [⟨(some 73), none, .mov (.t 7)⟩,
     ⟨(some 74), none, .mov (.t 6)⟩,
     ⟨(some 4), none, .mov (.t 73)⟩,
     ⟨(some 5), none, .mov (.t 74)⟩] [] false)
    .ret)
    .skip))))))
  (.reg [⟨(some 30), none, .mov (.t 6)⟩,
   ⟨(some 31), none, .bin .add (.t 30) (.c (.int .i64 1))⟩,
   ⟨(some 6), none, .mov (.t 31)⟩] [] false))))))
(.seq
(.reg [⟨(some 4), none, .mov (.c (.int .i64 (-1)))⟩,
 ⟨(some 5), none, .mov (.c (.int .i64 0))⟩] [] false)
.ret))))⟩
-- 222 topiary/topiaryref11.Allowed
def n_ref11_Allowed : Nat := 222
def af_ref11_Allowed : AF := ⟨37, [.tmp 2],
(.seq
(.reg [⟨(some 2), none, .mov (.c (.bool false))⟩] [] false)
(.seq
(.reg [⟨(some 3), none, .mov (.t 0)⟩,
 ⟨(some 4), none, .bin .eql (.t 3) (.c (.int .i64 9))⟩,
 ⟨(some 5), none, .mov (.t 4)⟩,
 ⟨(some 6), (some (5, false)), .mov (.t 0)⟩,
 ⟨(some 7), (some (5, false)), .bin .eql (.t 6) (.c (.int .i64 10))⟩,
 ⟨(some 8), none, .pick (.t 5) (.c (.bool true)) (.t 7)⟩,
 ⟨(some 9), none, .mov (.t 8)⟩,
 ⟨(some 10), (some (9, false)), .mov (.t 0)⟩,
 ⟨(some 11), (some (9, false)), .bin .eql (.t 10) (.c (.int .i64 13))⟩,
 ⟨(some 12), none, .pick (.t 9) (.c (.bool true)) (.t 11)⟩,
 ⟨(some 13), none, .mov (.t 12)⟩,
 ⟨(some 14), (some (13, false)), .mov (.t 0)⟩,
 ⟨(some 15), (some (13, false)), .bin .geq (.t 14) (.c (.int .i64 32))⟩,
 ⟨(some 16), (some (13, false)), .mov (.t 15)⟩,
 ⟨(some 17), (some (16, true)), .mov (.t 0)⟩,
 ⟨(some 18), (some (16, true)), .bin .leq (.t 17) (.c (.int .i64 55295))⟩,
 ⟨(some 19), (some (13, false)), .pick (.t 16) (.t 18) (.c (.bool false))⟩,
 ⟨(some 20), none, .pick (.t 13) (.c (.bool true)) (.t 19)⟩,
 ⟨(some 21), none, .mov (.t 20)⟩,
 ⟨(some 22), (some (21, false)), .mov (.t 0)⟩,
 ⟨(some 23), (some (21, false)), .bin .geq (.t 22) (.c (.int .i64 57344))⟩,
 ⟨(some 24), (some (21, false)), .mov (.t 23)⟩,
 ⟨(some 25), (some (24, true)), .mov (.t 0)⟩,
 ⟨(some 26), (some (24, true)), .bin .leq (.t 25) (.c (.int .i64 65533))⟩,
 ⟨(some 27), (some (21, false)), .pick (.t 24) (.t 26) (.c (.bool false))⟩,
 ⟨(some 28), none, .pick (.t 21) (.c (.bool true)) (.t 27)⟩,
 ⟨(some 29), none, .mov (.t 28)⟩,
 ⟨(some 30), (some (29, false)), .mov (.t 0)⟩,
 ⟨(some 31), (some (29, false)), .bin .geq (.t 30) (.c (.int .i64 65536))⟩,
 ⟨(some 32), (some (29, false)), .mov (.t 31)⟩,
 ⟨(some 33), (some (32, true)), .mov (.t 0)⟩,
 ⟨(some 34), (some (32, true)), .bin .leq (.t 33) (.c (.int .i64 1114111))⟩,
 ⟨(some 35), (some (29, false)), .pick (.t 32) (.t 34) (.c (.bool false))⟩,
 ⟨(some 36), none, .pick (.t 29) (.c (.bool true)) (.t 35)⟩,
 ⟨(some 2), none, .mov (.t 36)⟩] [] false)
.ret))⟩
-- 223 topiary/topiaryref12.begins
def n_ref12_begins : Nat := 223
def af_ref12_begins : AF := ⟨25, [.tmp 6],
(.seq
(.reg [⟨(some 6), none, .mov (.c (.bool false))⟩] [] false)
(.seq
(.reg [⟨(some 7), none, .mov (.t 1)⟩,
 ⟨(some 8), none, .mov (.t 2)⟩,
 ⟨(some 9), none, .slen (.t 8)⟩,
 ⟨(some 10), none, .bin .add (.t 7) (.t 9)⟩,
 ⟨(some 11), none, .mov (.t 0)⟩,
 ⟨(some 12), none, .slen (.t 11)⟩,
 ⟨(some 13), none, .bin .leq (.t 10) (.t 12)⟩,
 ⟨(some 14), none, .mov (.t 13)⟩,
 ⟨(some 15), (some (14, true)), .mov (.t 0)⟩,
 ⟨(some 16), (some (14, true)), .mov (.t 1)⟩,
 ⟨(some 17), (some (14, true)), .mov (.t 1)⟩,
 ⟨(some 18), (some (14, true)), .mov (.t 2)⟩,
 ⟨(some 19), (some (14, true)), .slen (.t 18)⟩,
 ⟨(some 20), (some (14, true)), .bin .add (.t 17) (.t 19)⟩,
 ⟨(some 21), (some (14, true)), .slc 0 (.t 15) (some (.t 16)) (some (.t 20)) none⟩,
 ⟨(some 22), (some (14, true)), .mov (.t 2)⟩,
 ⟨(some 23), (some (14, true)), .bin .eql (.t 21) (.t 22)⟩,
 ⟨(some 24), none, .pick (.t 14) (.t 23) (.c (.bool false))⟩,
 ⟨(some 6), none, .mov (.t 24)⟩] [] false)
.ret))⟩
-- 224 topiary/topiaryref12.find
def n_ref12_find : Nat := 224
def af_ref12_find : AF := ⟨28, [.tmp 6],
(.seq
(.reg [⟨(some 6), none, .mov (.c (.int .i64 0))⟩] [] false)
(.seq
(.seq
(.reg [⟨(some 8), none, .mov (.t 1)⟩,
 ⟨(some 7), none, .mov (.t 8)⟩] [] false)
(.block 0
 (.loop
  (.seq
  (.seq
  (.reg [⟨(some 9), none, .mov (.t 7)⟩,
   ⟨(some 10), none, .mov (.t 2)⟩,
   ⟨(some 11), none, .slen (.t 10)⟩,
   ⟨(some 12), none, .bin .add (.t 9) (.t 11)⟩,
   ⟨(some 13), none, .mov (.t 0)⟩,
   ⟨(some 14), none, .slen (.t 13)⟩,
   ⟨(some 15), none, .bin .leq (.t 12) (.t 14)⟩] [] false)
  (.cond (.t 15)
   .skip
   (.exit 0)))
  (.seq
  (.block 1
   (.seq
   (.reg [⟨(some 18), none, .mov (.t 0)⟩,
    ⟨(some 19), none, .mov (.t 7)⟩,
    ⟨(some 20), none, .mov (.t 7)⟩,
    ⟨(some 21), none, .mov (.t 2)⟩,
    ⟨(some 22), none, .slen (.t 21)⟩,
    ⟨(some 23), none, .bin .add (.t 20) (.t 22)⟩,
    ⟨(some 24), none, .slc 0 (.t 18) (some (.t 19)) (some (.t 23)) none⟩,
    ⟨(some 25), none, .mov (.t 2)⟩,
    ⟨(some 26), none, .bin .eql (.t 24) (.t 25)⟩] [] false)
   (.cond (.t 26)
    (.seq
    (.reg [⟨(some 27), none, .mov (.t 7)⟩,
     ⟨(some 6), none, .mov (.t 27)⟩] [] false)
    .ret)
    .skip)))
  (.reg [⟨(some 16), none, .mov (.t 7)⟩,
   ⟨(some 17), none, .bin .add (.t 16) (.c (.int .i64 1))⟩,
   ⟨(some 7), none, .mov (.t 17)⟩] [] false))))))
(.seq
(.reg [⟨(some 6), none, .mov (.c (.int .i64 (-1)))⟩] [] false)
.ret)))⟩
-- 225 topiary/topiaryref11.NameEnd
def n_ref11_NameEnd : Nat := 225
def af_ref11_NameEnd : AF := ⟨68, [.tmp 4],
(.seq
(.reg [⟨(some 4), none, .mov (.c (.int .i64 0))⟩] [] false)
(.seq
(.reg [⟨(some 9), none, .mov (.t 1)⟩,
 ⟨(some 5), none, .mov (.t 9)⟩] [] false)
(.seq
(.block 0
 (.loop
  (.seq
  (.seq
  (.reg [⟨(some 10), none, .mov (.t 5)⟩,
   ⟨(some 11), none, .bin .geq (.t 10) (.c (.int .i64 0))⟩,
   ⟨(some 12), none, .mov (.t 11)⟩,
   ⟨(some 13), (some (12, true)), .mov (.t 5)⟩,
   ⟨(some 14), (some (12, true)), .mov (.t 0)⟩,
   ⟨(some 15), (some (12, true)), .slen (.t 14)⟩,
   ⟨(some 16), (some (12, true)), .bin .lss (.t 13) (.t 15)⟩,
   ⟨(some 17), none, .pick (.t 12) (.t 16) (.c (.bool false))⟩] [] false)
  (.cond (.t 17)
   .skip
   (.exit 0)))
  (.block 1
   (.seq
   (.reg [⟨(some 18), none, .mov (.t 0)⟩,
    ⟨(some 19), none, .mov (.t 5)⟩,
    ⟨(some 20), none, .sidx (.t 18) (.t 19)⟩,
    ⟨(some 6), none, .mov (.t 20)⟩] [] false)
   (.seq
   (.reg [⟨(some 21), none, .mov (.t 6)⟩,
    ⟨(some 22), none, .bin .geq (.t 21) (.c (.int .u8 97))⟩,
    ⟨(some 23), none, .mov (.t 22)⟩,
    ⟨(some 24), (some (23, true)), .mov (.t 6)⟩,
    ⟨(some 25), (some (23, true)), .bin .leq (.t 24) (.c (.int .u8 122))⟩,
    ⟨(some 26), none, .pick (.t 23) (.t 25) (.c (.bool false))⟩,
    ⟨(some 27), none, .mov (.t 26)⟩,
    ⟨(some 28), (some (27, false)), .mov (.t 6)⟩,
    ⟨(some 29), (some (27, false)), .bin .geq (.t 28) (.c (.int .u8 65))⟩,
    ⟨(some 30), (some (27, false)), .mov (.t 29)⟩,
    ⟨(some 31), (some (30, true)), .mov (.t 6)⟩,
    ⟨(some 32), (some (30, true)), .bin .leq (.t 31) (.c (.int .u8 90))⟩,
    ⟨(some 33), (some (27, false)), .pick (.t 30) (.t 32) (.c (.bool false))⟩,
    ⟨(some 34), none, .pick (.t 27) (.c (.bool true)) (.t 33)⟩,
    ⟨(some 35), none, .mov (.t 34)⟩,
    ⟨(some 36), (some (35, false)), .mov (.t 6)⟩,
    ⟨(some 37), (some (35, false)), .bin .eql (.t 36) (.c (.int .u8 95))⟩,
    ⟨(some 38), none, .pick (.t 35) (.c (.bool true)) (.t 37)⟩,
    ⟨(some 7), none, .mov (.t 38)⟩] [] false)
   (.seq
   (.reg [⟨(some 39), none, .mov (.t 6)⟩,
    ⟨(some 40), none, .bin .geq (.t 39) (.c (.int .u8 48))⟩,
    ⟨(some 41), none, .mov (.t 40)⟩,
    ⟨(some 42), (some (41, true)), .mov (.t 6)⟩,
    ⟨(some 43), (some (41, true)), .bin .leq (.t 42) (.c (.int .u8 57))⟩,
    ⟨(some 44), none, .pick (.t 41) (.t 43) (.c (.bool false))⟩,
    ⟨(some 45), none, .mov (.t 44)⟩,
    ⟨(some 46), (some (45, false)), .mov (.t 6)⟩,
    ⟨(some 47), (some (45, false)), .bin .eql (.t 46) (.c (.int .u8 45))⟩,
    ⟨(some 48), none, .pick (.t 45) (.c (.bool true)) (.t 47)⟩,
    ⟨(some 49), none, .mov (.t 48)⟩,
    ⟨(some 50), (some (49, false)), .mov (.t 6)⟩,
    ⟨(some 51), (some (49, false)), .bin .eql (.t 50) (.c (.int .u8 46))⟩,
    ⟨(some 52), none, .pick (.t 49) (.c (.bool true)) (.t 51)⟩,
    ⟨(some 8), none, .mov (.t 52)⟩] [] false)
   (.seq
   (.seq
   (.reg [⟨(some 53), none, .mov (.t 7)⟩,
    ⟨(some 54), none, .un .not (.t 53)⟩,
    ⟨(some 55), none, .mov (.t 54)⟩,
    ⟨(some 56), (some (55, true)), .mov (.t 8)⟩,
    ⟨(some 57), (some (55, true)), .un .not (.t 56)⟩,
    ⟨(some 58), (some (55, true)), .mov (.t 57)⟩,
    ⟨(some 59), (some (58, false)), .mov (.t 5)⟩,
    ⟨(some 60), (some (58, false)), .mov (.t 1)⟩,
    ⟨(some 61), (some (58, false)), .bin .eql (.t 59) (.t 60)⟩,
    ⟨(some 62), (some (55, true)), .pick (.t 58) (.c (.bool true)) (.t 61)⟩,
    ⟨(some 63), none, .pick (.t 55) (.t 62) (.c (.bool false))⟩] [] false)
   (.cond (.t 63)
    (.seq
    (.reg [⟨(some 64), none, .mov (.t 5)⟩,
     ⟨(some 4), none, .mov (.t 64)⟩] [] false)
    .ret)
    .skip))
   (.reg [⟨(some 65), none, .mov (.t 5)⟩,
    ⟨(some 66), none, .bin .add (.t 65) (.c (.int .i64 1))⟩,
    ⟨(some 5), none, .mov (.t 66)⟩] [] false)))))))))
(.seq
(.reg [⟨(some 67), none, .mov (.t 5)⟩,
 ⟨(some 4), none, .mov (.t 67)⟩] [] false)
.ret))))⟩
-- 226 topiary/topiaryref12.tag
def n_ref12_tag : Nat := 226
def af_ref12_tag : AF := ⟨71, [.tmp 4, .tmp 5],
(.seq
(.reg [⟨(some 4), none, .mov (.c (.sl true []))⟩,
 ⟨(some 5), none, .mov (.c (.bool false))⟩] [] false)
(.seq
(.reg [⟨(some 12), none, .mov (.t 0)⟩,
 ⟨(some 13), none, .mov (.t 1)⟩,
 ⟨(some 14), none, .bin .add (.t 13) (.c (.int .i64 1))⟩,
 ⟨(some 15), none, .call (.c (.fn 225 [] [])) [(.t 12), (.t 14)]⟩,
 ⟨(some 6), none, .mov (.t 15)⟩] [] false)
(.seq
(.seq
(.reg [⟨(some 16), none, .mov (.t 6)⟩,
 ⟨(some 17), none, .mov (.t 1)⟩,
 ⟨(some 18), none, .bin .add (.t 17) (.c (.int .i64 1))⟩,
 ⟨(some 19), none, .bin .eql (.t 16) (.t 18)⟩] [] false)
(.cond (.t 19)
 (.seq
 (.reg [⟨(some 4), none, .mov (.c (.sl true []))⟩,
  ⟨(some 5), none, .mov (.c (.bool false))⟩] [] false)
 .ret)
 .skip))
(.seq
(.reg [⟨(some 20), none, .mov (.t 1)⟩,
 ⟨(some 21), none, .mov (.t 6)⟩,
 ⟨(some 22), none, .mov (.t 0)⟩,
 ⟨(some 23), none, .mov (.t 1)⟩,
 ⟨(some 24), none, .bin .add (.t 23) (.c (.int .i64 1))⟩,
 ⟨(some 25), none, .mov (.t 6)⟩,
 ⟨(some 26), none, .slc 0 (.t 22) (some (.t 24)) (some (.t 25)) none⟩,
 ⟨(some 27), none, .build [(.int .i64 0), (.int .i64 0), (.int .i64 0), (.str ⟨#[]⟩), (.str ⟨#[]⟩)] [(0, 1, (.c (.int .i64 1))), (1, 1, (.t 20)), (2, 1, (.t 21)), (3, 1, (.t 26))]⟩,
 ⟨(some 28), none, .bsl 183 5 [(.t 27)]⟩,
 ⟨(some 7), none, .mov (.t 28)⟩] [] false)
(.block 0
 (.loop
  (.block 1
   (.seq
   (.reg [⟨(some 29), none, .mov (.t 7)⟩,
    ⟨(some 30), none, .mov (.t 7)⟩,
    ⟨(some 31), none, .len (.t 30)⟩,
    ⟨(some 32), none, .bin .sub (.t 31) (.c (.int .i64 1))⟩,
    ⟨(some 33), none, .idx 5 (.t 29) (.t 32)⟩,
    ⟨(some 34), none, .fad 2 (.t 33)⟩,
    ⟨(some 35), none, .load false 1 (.t 34)⟩,
    ⟨(some 8), none, .mov (.t 35)⟩] [] false)
   (.seq
   (.reg [⟨(some 36), none, .mov (.t 0)⟩,
    ⟨(some 37), none, .mov (.t 8)⟩,
    ⟨(some 38), none, .call (.c (.fn 157 [] [])) [(.t 36), (.t 37)]⟩,
    ⟨(some 9), none, .mov (.t 38)⟩] [] false)
   (.seq
   (.seq
   (.reg [⟨(some 39), none, .mov (.t 0)⟩,
    ⟨(some 40), none, .mov (.t 9)⟩,
    ⟨(some 41), none, .call (.c (.fn 223 [] [])) [(.t 39), (.t 40), (.c (.str ⟨#[62]⟩))]⟩] [] false)
   (.cond (.t 41)
    (.seq
    (.reg [⟨(some 42), none, .mov (.t 7)⟩,
     ⟨(some 43), none, .mov (.t 9)⟩,
     ⟨(some 44), none, .mov (.t 9)⟩,
     ⟨(some 45), none, .bin .add (.t 44) (.c (.int .i64 1))⟩,
     ⟨(some 46), none, .build [(.int .i64 0), (.int .i64 0), (.int .i64 0), (.str ⟨#[]⟩), (.str ⟨#[]⟩)] [(0, 1, (.c (.int .i64 3))), (1, 1, (.t 43)), (2, 1, (.t 45))]⟩,
     ⟨(some 47), none, .bsl 183 5 [(.t 46)]⟩,
     ⟨(some 48), none, .app 183 5 56 (.t 42) (.t 47)⟩,
     ⟨(some 4), none, .mov (.t 48)⟩,
     ⟨(some 5), none, .mov (.c (.bool true))⟩] [] false)
    .ret)
    .skip))
   (.seq
   (.seq
   (.reg [⟨(some 49), none, .mov (.t 0)⟩,
    ⟨(some 50), none, .mov (.t 9)⟩,
    ⟨(some 51), none, .call (.c (.fn 223 [] [])) [(.t 49), (.t 50), (.c (.str ⟨#[47, 62]⟩))]⟩] [] false)
   (.cond (.t 51)
    (.seq
    (.reg [⟨(some 52), none, .mov (.t 7)⟩,
     ⟨(some 53), none, .mov (.t 9)⟩,
     ⟨(some 54), none, .mov (.t 9)⟩,
     ⟨(some 55), none, .bin .add (.t 54) (.c (.int .i64 2))⟩,
     ⟨(some 56), none, .build [(.int .i64 0), (.int .i64 0), (.int .i64 0), (.str ⟨#[]⟩), (.str ⟨#[]⟩)] [(0, 1, (.c (.int .i64 4))), (1, 1, (.t 53)), (2, 1, (.t 55))]⟩,
     ⟨(some 57), none, .bsl 183 5 [(.t 56)]⟩,
     ⟨(some 58), none, .app 183 5 56 (.t 52) (.t 57)⟩,
     ⟨(some 4), none, .mov (.t 58)⟩,
     ⟨(some 5), none, .mov (.c (.bool true))⟩] [] false)
    .ret)
    .skip))
   (.seq
   (.reg [⟨(some 60), none, .mov (.t 0)⟩,
    ⟨(some 61), none, .mov (.t 8)⟩,
    ⟨(some 62), none, .call (.c (.fn 267 [] [])) [(.t 60), (.t 61)]⟩,
    ⟨(some 59), none, .mov (.t 62)⟩,
    ⟨(some 63), none, .ext (.t 59) 0⟩,
    ⟨(some 64), none, .ext (.t 59) 1⟩,
    ⟨(some 10), none, .alc (.agg [(.int .i64 0), (.int .i64 0), (.int .i64 0), (.str ⟨#[]⟩), (.str ⟨#[]⟩)])⟩,
    ⟨none, none, .store 5 (.t 10) (.t 63)⟩,
    ⟨(some 11), none, .mov (.t 64)⟩] [] false)
   (.seq
   (.seq
   (.reg [⟨(some 65), none, .mov (.t 11)⟩,
    ⟨(some 66), none, .un .not (.t 65)⟩] [] false)
   (.cond (.t 66)
    (.seq
    (.reg [⟨(some 4), none, .mov (.c (.sl true []))⟩,
     ⟨(some 5), none, .mov (.c (.bool false))⟩] [] false)
    .ret)
    .skip))
   (.reg [⟨(some 67), none, .mov (.t 7)⟩,
    ⟨(some 68), none, .load true 5 (.t 10)⟩,
    ⟨(some 69), none, .bsl 183 5 [(.t 68)]⟩,
    ⟨(some 70), none, .app 183 5 56 (.t 67) (.t 69)⟩,
    ⟨(some 7), none, .mov (.t 70)⟩] [] false))))))))))))))⟩
-- 227 topiary/topiaryref12.decoded
def n_ref12_decoded : Nat := 227
def af_ref12_decoded : AF := ⟨40, [.tmp 2, .tmp 3],
(.seq
(.reg [⟨(some 2), none, .mov (.c (.str ⟨#[]⟩))⟩,
 ⟨(some 3), none, .mov (.c (.bool false))⟩] [] false)
(.seq
(.reg [⟨(some 4), none, .mov (.c (.str ⟨#[]⟩))⟩] [] false)
(.seq
(.seq
(.reg [⟨(some 5), none, .mov (.c (.int .i64 0))⟩] [] false)
(.block 0
 (.loop
  (.seq
  (.seq
  (.reg [⟨(some 8), none, .mov (.t 5)⟩,
   ⟨(some 9), none, .mov (.t 0)⟩,
   ⟨(some 10), none, .slen (.t 9)⟩,
   ⟨(some 11), none, .bin .lss (.t 8) (.t 10)⟩] [] false)
  (.cond (.t 11)
   .skip
   (.exit 0)))
  (.block 1
   (.seq
   (.seq
   (.reg [⟨(some 12), none, .mov (.t 0)⟩,
    ⟨(some 13), none, .mov (.t 5)⟩,
    ⟨(some 14), none, .sidx (.t 12) (.t 13)⟩,
    ⟨(some 15), none, .bin .neq (.t 14) (.c (.int .u8 38))⟩] [] false)
   (.cond (.t 15)
    (.seq
    (.reg [⟨(some 16), none, .mov (.t 4)⟩,
     ⟨(some 17), none, .mov (.t 0)⟩,
     ⟨(some 18), none, .mov (.t 5)⟩,
     ⟨(some 19), none, .mov (.t 5)⟩,
     ⟨(some 20), none, .bin .add (.t 19) (.c (.int .i64 1))⟩,
     ⟨(some 21), none, .slc 0 (.t 17) (some (.t 18)) (some (.t 20)) none⟩,
     ⟨(some 22), none, .bin .add (.t 16) (.t 21)⟩,
     ⟨(some 4), none, .mov (.t 22)⟩] [] false)
    (.seq
    (.reg [⟨(some 23), none, .mov (.t 5)⟩,
     ⟨(some 24), none, .bin .add (.t 23) (.c (.int .i64 1))⟩,
     ⟨(some 5), none, .mov (.t 24)⟩] [] false)
    (.exit 1)))
    .skip))
   (.seq
   (.reg [⟨(some 26), none, .mov (.t 0)⟩,
    ⟨(some 27), none, .mov (.t 5)⟩,
    ⟨(some 28), none, .call (.c (.fn 268 [] [])) [(.t 26), (.t 27)]⟩,
    ⟨(some 25), none, .mov (.t 28)⟩,
    ⟨(some 29), none, .ext (.t 25) 0⟩,
    ⟨(some 30), none, .ext (.t 25) 1⟩,
    ⟨(some 6), none, .mov (.t 29)⟩,
    ⟨(some 7), none, .mov (.t 30)⟩] [] false)
   (.seq
   (.seq
   (.reg [⟨(some 31), none, .mov (.t 7)⟩,
    ⟨(some 32), none, .bin .eql (.t 31) (.c (.int .i64 0))⟩] [] false)
   (.cond (.t 32)
    (.seq
    (.reg [⟨(some 2), none, .mov (.c (.str ⟨#[]⟩))⟩,
     ⟨(some 3), none, .mov (.c (.bool false))⟩] [] false)
    .ret)
    .skip))
   (.seq
   (.reg [⟨(some 33), none, .mov (.t 4)⟩,
    ⟨(some 34), none, .mov (.t 6)⟩,
    ⟨(some 35), none, .bin .add (.t 33) (.t 34)⟩,
    ⟨(some 4), none, .mov (.t 35)⟩] [] false)
   (.reg [⟨(some 36), none, .mov (.t 5)⟩,
    ⟨(some 37), none, .mov (.t 7)⟩,
    ⟨(some 38), none, .bin .add (.t 36) (.t 37)⟩,
    ⟨(some 5), none, .mov (.t 38)⟩] [] false))))))))))
(.seq
(.reg [⟨(some 39), none, .mov (.t 4)⟩,
 ⟨(some 2), none, .mov (.t 39)⟩,
 ⟨(some 3), none, .mov (.c (.bool true))⟩] [] false)
.ret))))⟩
-- 228 topiary/topiaryref11.Space
def n_ref11_Space : Nat := 228
def af_ref11_Space : AF := ⟨17, [.tmp 2],
(.seq
(.reg [⟨(some 2), none, .mov (.c (.bool false))⟩] [] false)
(.seq
(.reg [⟨(some 3), none, .mov (.t 0)⟩,
 ⟨(some 4), none, .bin .eql (.t 3) (.c (.int .u8 32))⟩,
 ⟨(some 5), none, .mov (.t 4)⟩,
 ⟨(some 6), (some (5, false)), .mov (.t 0)⟩,
 ⟨(some 7), (some (5, false)), .bin .eql (.t 6) (.c (.int .u8 9))⟩,
 ⟨(some 8), none, .pick (.t 5) (.c (.bool true)) (.t 7)⟩,
 ⟨(some 9), none, .mov (.t 8)⟩,
 ⟨(some 10), (some (9, false)), .mov (.t 0)⟩,
 ⟨(some 11), (some (9, false)), .bin .eql (.t 10) (.c (.int .u8 10))⟩,
 ⟨(some 12), none, .pick (.t 9) (.c (.bool true)) (.t 11)⟩,
 ⟨(some 13), none, .mov (.t 12)⟩,
 ⟨(some 14), (some (13, false)), .mov (.t 0)⟩,
 ⟨(some 15), (some (13, false)), .bin .eql (.t 14) (.c (.int .u8 13))⟩,
 ⟨(some 16), none, .pick (.t 13) (.c (.bool true)) (.t 15)⟩,
 ⟨(some 2), none, .mov (.t 16)⟩] [] false)
.ret))⟩
-- 229 math/bits.Mul
def n_math_bits_Mul : Nat := 229
def af_math_bits_Mul : AF := ⟨30, [.tmp 4, .tmp 5],
(.seq
(.reg [⟨(some 4), none, .mov (.c (.int .u64 0))⟩,
 ⟨(some 5), none, .mov (.c (.int .u64 0))⟩] [] false)
(.seq
(.cond (.c (.bool false))
 (.seq
 (.reg [⟨(some 11), none, .mov (.t 0)⟩,
  ⟨(some 12), none, .conv .u32 (.t 11)⟩,
  ⟨(some 13), none, .mov (.t 1)⟩,
  ⟨(some 14), none, .conv .u32 (.t 13)⟩,
  ⟨(some 15), none, .call (.c (.fn 269 [] [])) [(.t 12), (.t 14)]⟩,
  ⟨(some 10), none, .mov (.t 15)⟩,
  ⟨(some 16), none, .ext (.t 10) 0⟩,
  ⟨(some 17), none, .ext (.t 10) 1⟩,
  ⟨(some 6), none, .mov (.t 16)⟩,
  ⟨(some 7), none, .mov (.t 17)⟩] [] false)
 (.seq
 (.reg [⟨(some 18), none, .mov (.t 6)⟩,
  ⟨(some 19), none, .conv .u64 (.t 18)⟩,
  ⟨(some 20), none, .mov (.t 7)⟩,
  ⟨(some 21), none, .conv .u64 (.t 20)⟩,
  ⟨(some 4), none, .mov (.t 19)⟩,
  ⟨(some 5), none, .mov (.t 21)⟩] [] false)
 .ret))
 .skip)
(.seq
(.reg [⟨(some 23), none, .mov (.t 0)⟩,
 ⟨(some 24), none, .mov (.t 1)⟩,
 ⟨(some 25), none, .call (.c (.fn 270 [] [])) [(.t 23), (.t 24)]⟩,
 ⟨(some 22), none, .mov (.t 25)⟩,
 ⟨(some 26), none, .ext (.t 22) 0⟩,
 ⟨(some 27), none, .ext (.t 22) 1⟩,
 ⟨(some 8), none, .mov (.t 26)⟩,
 ⟨(some 9), none, .mov (.t 27)⟩] [] false)
(.seq
(.reg [⟨(some 28), none, .mov (.t 8)⟩,
 ⟨(some 29), none, .mov (.t 9)⟩,
 ⟨(some 4), none, .mov (.t 28)⟩,
 ⟨(some 5), none, .mov (.t 29)⟩] [] false)
.ret))))⟩
-- 230 cmp.isNaN[int]
def n_cmp_isNaN_int : Nat := 230
def af_cmp_isNaN_int : AF := ⟨6, [.tmp 2],
(.seq
(.reg [⟨(some 2), none, .mov (.c (.bool false))⟩] [] false)
(.seq
(.reg [⟨(some 3), none, .mov (.t 0)⟩,
 ⟨(some 4), none, .mov (.t 0)⟩,
 ⟨(some 5), none, .bin .neq (.t 3) (.t 4)⟩,
 ⟨(some 2), none, .mov (.t 5)⟩] [] false)
.ret))⟩
-- 231 topiary/order.Stable
def n_order_Stable : Nat := 231
def af_order_Stable : AF := ⟨25, [.tmp 4, .tmp 5],
(.seq
(.reg [⟨(some 3), none, .box (.t 1)⟩,
 ⟨(some 4), none, .mov (.c (.sl true []))⟩,
 ⟨(some 5), none, .mov (.c (.int .i64 0))⟩] [] false)
(.seq
(.reg [⟨(some 7), none, .mkf 271 [] [(.t 3)]⟩,
 ⟨(some 6), none, .mov (.t 7)⟩] [] false)
(.seq
(.seq
(.reg [⟨(some 8), none, .load false 1 (.t 3)⟩,
 ⟨(some 9), none, .bin .lss (.t 8) (.c (.int .i64 1))⟩,
 ⟨(some 10), none, .mov (.t 9)⟩,
 ⟨(some 11), (some (10, false)), .load false 1 (.t 3)⟩,
 ⟨(some 12), (some (10, false)), .bin .gtr (.t 11) (.c (.int .i64 1048576))⟩,
 ⟨(some 13), none, .pick (.t 10) (.c (.bool true)) (.t 12)⟩,
 ⟨(some 14), none, .mov (.t 13)⟩,
 ⟨(some 15), (some (14, false)), .mov (.t 0)⟩,
 ⟨(some 16), (some (14, false)), .mov (.t 6)⟩,
 ⟨(some 17), (some (14, false)), .call (.c (.fn 112 [] [])) [(.t 15), (.t 16)]⟩,
 ⟨(some 18), none, .pick (.t 14) (.c (.bool true)) (.t 17)⟩] [] false)
(.cond (.t 18)
 (.seq
 (.reg [⟨(some 4), none, .mov (.c (.sl true []))⟩,
  ⟨(some 5), none, .mov (.c (.int .i64 1))⟩] [] false)
 .ret)
 .skip))
(.seq
(.reg [⟨(some 19), none, .mov (.t 0)⟩,
 ⟨(some 20), none, .len (.t 19)⟩,
 ⟨(some 21), none, .call (.c (.fn 273 [] [])) [(.t 20)]⟩,
 ⟨(some 22), none, .mov (.t 0)⟩,
 ⟨(some 23), none, .load false 1 (.t 3)⟩,
 ⟨(some 24), none, .call (.c (.fn 272 [] [])) [(.t 21), (.t 22), (.t 23)]⟩,
 ⟨(some 4), none, .mov (.t 24)⟩,
 ⟨(some 5), none, .mov (.c (.int .i64 0))⟩] [] true)
.ret))))⟩
-- 232 topiary/xbw.ranks
def n_xbw_ranks : Nat := 232
def af_xbw_ranks : AF := ⟨66, [.tmp 2],
(.seq
(.reg [⟨(some 1), none, .box (.t 0)⟩,
 ⟨(some 2), none, .mov (.c (.sl true []))⟩] [] false)
(.scope
 (.seq
 (.reg [⟨(some 9), none, .fad 1 (.t 1)⟩,
  ⟨(some 10), none, .load false 1 (.t 9)⟩,
  ⟨(some 11), none, .len (.t 10)⟩,
  ⟨(some 3), none, .alc (.int .i64 0)⟩,
  ⟨none, none, .store 1 (.t 3) (.t 11)⟩] [] false)
 (.seq
 (.reg [⟨(some 12), none, .load false 1 (.t 3)⟩,
  ⟨(some 13), none, .mks 3 1 8 (.int .i64 0) (.t 12)⟩,
  ⟨(some 4), none, .alc (.sl true [])⟩,
  ⟨none, none, .store 1 (.t 4) (.t 13)⟩] [] false)
 (.seq
 (.reg [⟨(some 14), none, .load false 1 (.t 3)⟩,
  ⟨(some 15), none, .mks 3 1 8 (.int .i64 0) (.t 14)⟩,
  ⟨(some 5), none, .mov (.t 15)⟩] [] false)
 (.seq
 (.seq
 (.reg [⟨(some 16), none, .load false 1 (.t 3)⟩,
  ⟨(some 17), none, .mov (.c (.int .i64 0))⟩] [] false)
 (.block 0
  (.loop
   (.seq
   (.reg [⟨(some 18), none, .bin .lss (.t 17) (.t 16)⟩] [] false)
   (.seq
   (.cond (.t 18)
    .skip
    (.exit 0))
   (.seq
   (.block 1
    (.seq
    (.reg [⟨(some 19), none, .mov (.t 17)⟩,
     ⟨(some 6), none, .mov (.t 19)⟩] [] false)
    (.seq
    (.reg [⟨(some 20), none, .load false 1 (.t 4)⟩,
     ⟨(some 21), none, .mov (.t 6)⟩,
     ⟨(some 22), none, .load true 2 (.t 1)⟩,
     ⟨(some 23), none, .mov (.t 6)⟩,
     ⟨(some 24), none, .call (.c (.fn 166 [] [])) [(.t 22), (.t 23)]⟩,
     ⟨(some 25), none, .idx 1 (.t 20) (.t 21)⟩,
     ⟨none, none, .store 1 (.t 25) (.t 24)⟩] [] true)
    (.seq
    (.reg [⟨(some 26), none, .mov (.t 5)⟩,
     ⟨(some 27), none, .mov (.t 6)⟩,
     ⟨(some 28), none, .idx 1 (.t 26) (.t 27)⟩,
     ⟨none, none, .store 1 (.t 28) (.c (.int .i64 (-2)))⟩] [] false)
    (.seq
    (.reg [⟨(some 29), none, .load false 1 (.t 4)⟩,
     ⟨(some 30), none, .mov (.t 6)⟩,
     ⟨(some 31), none, .idx 1 (.t 29) (.t 30)⟩,
     ⟨(some 32), none, .load false 1 (.t 31)⟩,
     ⟨(some 33), none, .bin .geq (.t 32) (.c (.int .i64 0))⟩] [] false)
    (.cond (.t 33)
     (.reg [⟨(some 34), none, .mov (.t 5)⟩,
      ⟨(some 35), none, .mov (.t 6)⟩,
      ⟨(some 36), none, .load true 2 (.t 1)⟩,
      ⟨(some 37), none, .load false 1 (.t 4)⟩,
      ⟨(some 38), none, .mov (.t 6)⟩,
      ⟨(some 39), none, .idx 1 (.t 37) (.t 38)⟩,
      ⟨(some 40), none, .load false 1 (.t 39)⟩,
      ⟨(some 41), none, .call (.c (.fn 167 [] [])) [(.t 36), (.t 40)]⟩,
      ⟨(some 42), none, .idx 1 (.t 34) (.t 35)⟩,
      ⟨none, none, .store 1 (.t 42) (.t 41)⟩] [] false)
     .skip))))))
   (.reg [⟨(some 43), none, .bin .add (.t 17) (.c (.int .i64 1))⟩,
    ⟨(some 17), none, .mov (.t 43)⟩] [] false)))))))
 (.seq
 (.reg [⟨(some 44), none, .mov (.t 5)⟩,
  ⟨(some 45), none, .call (.c (.fn 274 [] [])) [(.t 44)]⟩,
  ⟨(some 7), none, .mov (.t 45)⟩] [] false)
 (.seq
 .skip
 (.seq
 (.block 2
  (.loop
   (.block 3
    (.seq
    (.seq
    (.reg [⟨(some 46), none, .load false 1 (.t 3)⟩,
     ⟨(some 47), none, .bin .eql (.t 46) (.c (.int .i64 0))⟩,
     ⟨(some 48), none, .mov (.t 47)⟩,
     ⟨(some 49), (some (48, false)), .load false 1 (.t 4)⟩,
     ⟨(some 50), (some (48, false)), .call (.c (.fn 275 [] [])) [(.t 49)]⟩,
     ⟨(some 51), (some (48, false)), .bin .lss (.t 50) (.c (.int .i64 0))⟩,
     ⟨(some 52), none, .pick (.t 48) (.c (.bool true)) (.t 51)⟩] [] false)
    (.cond (.t 52)
     (.exit 2)
     .skip))
    (.seq
    (.reg [⟨(some 53), none, .mkf 276 [] [(.t 3), (.t 4)]⟩,
     ⟨(some 8), none, .mov (.t 53)⟩] [] false)
    (.seq
    (.reg [⟨(some 55), none, .mov (.t 7)⟩,
     ⟨(some 56), none, .mov (.t 8)⟩,
     ⟨(some 57), none, .mov (.t 7)⟩,
     ⟨(some 58), none, .call (.t 56) [(.t 57), (.c (.int .i64 (-1)))]⟩,
     ⟨(some 59), none, .call (.c (.fn 251 [] [])) [(.t 55), (.t 58)]⟩,
     ⟨(some 54), none, .mov (.t 59)⟩,
     ⟨(some 60), none, .ext (.t 54) 0⟩,
     ⟨(some 61), none, .ext (.t 54) 1⟩,
     ⟨(some 7), none, .mov (.t 60)⟩] [] false)
    (.reg [⟨(some 62), none, .mov (.t 8)⟩,
     ⟨(some 63), none, .load false 1 (.t 4)⟩,
     ⟨(some 64), none, .call (.t 62) [(.t 63), (.c (.int .i64 (-1)))]⟩,
     ⟨none, none, .store 1 (.t 4) (.t 64)⟩] [] false)))))))
 (.seq
 (.reg [⟨(some 65), none, .mov (.t 7)⟩,
  ⟨(some 2), none, .mov (.t 65)⟩] [] false)
 .ret))))))))))⟩
-- 233 slices.insertionSortOrdered[int]
def n_slices_insertionSortOrdered_int : Nat := 233
def af_slices_insertionSortOrdered_int : AF := ⟨49, [],
(.seq
(.reg [⟨(some 8), none, .mov (.t 1)⟩,
 ⟨(some 9), none, .bin .add (.t 8) (.c (.int .i64 1))⟩,
 ⟨(some 6), none, .mov (.t 9)⟩] [] false)
(.block 0
 (.loop
  (.seq
  (.seq
  (.reg [⟨(some 10), none, .mov (.t 6)⟩,
   ⟨(some 11), none, .mov (.t 2)⟩,
   ⟨(some 12), none, .bin .lss (.t 10) (.t 11)⟩] [] false)
  (.cond (.t 12)
   .skip
   (.exit 0)))
  (.seq
  (.block 1
   (.seq
   (.reg [⟨(some 15), none, .mov (.t 6)⟩,
    ⟨(some 7), none, .mov (.t 15)⟩] [] false)
   (.block 2
    (.loop
     (.seq
     (.seq
     (.reg [⟨(some 16), none, .mov (.t 7)⟩,
      ⟨(some 17), none, .mov (.t 1)⟩,
      ⟨(some 18), none, .bin .gtr (.t 16) (.t 17)⟩,
      ⟨(some 19), none, .mov (.t 18)⟩,
      ⟨(some 20), (some (19, true)), .mov (.t 0)⟩,
      ⟨(some 21), (some (19, true)), .mov (.t 7)⟩,
      ⟨(some 22), (some (19, true)), .idx 1 (.t 20) (.t 21)⟩,
      ⟨(some 23), (some (19, true)), .load false 1 (.t 22)⟩,
      ⟨(some 24), (some (19, true)), .mov (.t 0)⟩,
      ⟨(some 25), (some (19, true)), .mov (.t 7)⟩,
      ⟨(some 26), (some (19, true)), .bin .sub (.t 25) (.c (.int .i64 1))⟩,
      ⟨(some 27), (some (19, true)), .idx 1 (.t 24) (.t 26)⟩,
      ⟨(some 28), (some (19, true)), .load false 1 (.t 27)⟩,
      ⟨(some 29), (some (19, true)), .call (.c (.fn 164 [] [])) [(.t 23), (.t 28)]⟩,
      ⟨(some 30), none, .pick (.t 19) (.t 29) (.c (.bool false))⟩] [] false)
     (.cond (.t 30)
      .skip
      (.exit 2)))
     (.seq
     (.block 3
      (.reg [⟨(some 33), none, .mov (.t 0)⟩,
       ⟨(some 34), none, .mov (.t 7)⟩,
       ⟨(some 35), none, .mov (.t 0)⟩,
       ⟨(some 36), none, .mov (.t 7)⟩,
       ⟨(some 37), none, .bin .sub (.t 36) (.c (.int .i64 1))⟩,
       ⟨(some 38), none, .mov (.t 0)⟩,
       ⟨(some 39), none, .mov (.t 7)⟩,
       ⟨(some 40), none, .bin .sub (.t 39) (.c (.int .i64 1))⟩,
       ⟨(some 41), none, .idx 1 (.t 38) (.t 40)⟩,
       ⟨(some 42), none, .load false 1 (.t 41)⟩,
       ⟨(some 43), none, .mov (.t 0)⟩,
       ⟨(some 44), none, .mov (.t 7)⟩,
       ⟨(some 45), none, .idx 1 (.t 43) (.t 44)⟩,
       ⟨(some 46), none, .load false 1 (.t 45)⟩,
       ⟨(some 47), none, .idx 1 (.t 33) (.t 34)⟩,
       ⟨none, none, .store 1 (.t 47) (.t 42)⟩,
       ⟨(some 48), none, .idx 1 (.t 35) (.t 37)⟩,
       ⟨none, none, .store 1 (.t 48) (.t 46)⟩] [] false))
     (.reg [⟨(some 31), none, .mov (.t 7)⟩,
      ⟨(some 32), none, .bin .sub (.t 31) (.c (.int .i64 1))⟩,
      ⟨(some 7), none, .mov (.t 32)⟩] [] false)))))))
  (.reg [⟨(some 13), none, .mov (.t 6)⟩,
   ⟨(some 14), none, .bin .add (.t 13) (.c (.int .i64 1))⟩,
   ⟨(some 6), none, .mov (.t 14)⟩] [] false))))))⟩
-- 234 slices.heapSortOrdered[int]
def n_slices_heapSortOrdered_int : Nat := 234
def af_slices_heapSortOrdered_int : AF := ⟨56, [],
(.seq
(.reg [⟨(some 11), none, .mov (.t 1)⟩,
 ⟨(some 6), none, .mov (.t 11)⟩] [] false)
(.seq
(.reg [⟨(some 7), none, .mov (.c (.int .i64 0))⟩] [] false)
(.seq
(.reg [⟨(some 12), none, .mov (.t 2)⟩,
 ⟨(some 13), none, .mov (.t 1)⟩,
 ⟨(some 14), none, .bin .sub (.t 12) (.t 13)⟩,
 ⟨(some 8), none, .mov (.t 14)⟩] [] false)
(.seq
(.seq
(.reg [⟨(some 15), none, .mov (.t 8)⟩,
 ⟨(some 16), none, .bin .sub (.t 15) (.c (.int .i64 1))⟩,
 ⟨(some 17), none, .bin .quo (.t 16) (.c (.int .i64 2))⟩,
 ⟨(some 9), none, .mov (.t 17)⟩] [] false)
(.block 0
 (.loop
  (.seq
  (.seq
  (.reg [⟨(some 18), none, .mov (.t 9)⟩,
   ⟨(some 19), none, .bin .geq (.t 18) (.c (.int .i64 0))⟩] [] false)
  (.cond (.t 19)
   .skip
   (.exit 0)))
  (.seq
  (.block 1
   (.reg [⟨(some 22), none, .mov (.t 0)⟩,
    ⟨(some 23), none, .mov (.t 9)⟩,
    ⟨(some 24), none, .mov (.t 8)⟩,
    ⟨(some 25), none, .mov (.t 6)⟩,
    ⟨(some 26), none, .call (.c (.fn 277 [] [])) [(.t 22), (.t 23), (.t 24), (.t 25)]⟩] [] false))
  (.reg [⟨(some 20), none, .mov (.t 9)⟩,
   ⟨(some 21), none, .bin .sub (.t 20) (.c (.int .i64 1))⟩,
   ⟨(some 9), none, .mov (.t 21)⟩] [] false))))))
(.seq
(.reg [⟨(some 27), none, .mov (.t 8)⟩,
 ⟨(some 28), none, .bin .sub (.t 27) (.c (.int .i64 1))⟩,
 ⟨(some 10), none, .mov (.t 28)⟩] [] false)
(.block 2
 (.loop
  (.seq
  (.seq
  (.reg [⟨(some 29), none, .mov (.t 10)⟩,
   ⟨(some 30), none, .bin .geq (.t 29) (.c (.int .i64 0))⟩] [] false)
  (.cond (.t 30)
   .skip
   (.exit 2)))
  (.seq
  (.block 3
   (.seq
   (.reg [⟨(some 33), none, .mov (.t 0)⟩,
    ⟨(some 34), none, .mov (.t 6)⟩,
    ⟨(some 35), none, .mov (.t 0)⟩,
    ⟨(some 36), none, .mov (.t 6)⟩,
    ⟨(some 37), none, .mov (.t 10)⟩,
    ⟨(some 38), none, .bin .add (.t 36) (.t 37)⟩,
    ⟨(some 39), none, .mov (.t 0)⟩,
    ⟨(some 40), none, .mov (.t 6)⟩,
    ⟨(some 41), none, .mov (.t 10)⟩,
    ⟨(some 42), none, .bin .add (.t 40) (.t 41)⟩,
    ⟨(some 43), none, .idx 1 (.t 39) (.t 42)⟩,
    ⟨(some 44), none, .load false 1 (.t 43)⟩,
    ⟨(some 45), none, .mov (.t 0)⟩,
    ⟨(some 46), none, .mov (.t 6)⟩,
    ⟨(some 47), none, .idx 1 (.t 45) (.t 46)⟩,
    ⟨(some 48), none, .load false 1 (.t 47)⟩,
    ⟨(some 49), none, .idx 1 (.t 33) (.t 34)⟩,
    ⟨none, none, .store 1 (.t 49) (.t 44)⟩,
    ⟨(some 50), none, .idx 1 (.t 35) (.t 38)⟩,
    ⟨none, none, .store 1 (.t 50) (.t 48)⟩] [] false)
   (.reg [⟨(some 51), none, .mov (.t 0)⟩,
    ⟨(some 52), none, .mov (.t 7)⟩,
    ⟨(some 53), none, .mov (.t 10)⟩,
    ⟨(some 54), none, .mov (.t 6)⟩,
    ⟨(some 55), none, .call (.c (.fn 277 [] [])) [(.t 51), (.t 52), (.t 53), (.t 54)]⟩] [] false)))
  (.reg [⟨(some 31), none, .mov (.t 10)⟩,
   ⟨(some 32), none, .bin .sub (.t 31) (.c (.int .i64 1))⟩,
   ⟨(some 10), none, .mov (.t 32)⟩] [] false))))))))))⟩
-- 235 slices.breakPatternsOrdered[int]
def n_slices_breakPatternsOrdered_int : Nat := 235
def af_slices_breakPatternsOrdered_int : AF := ⟨65, [],
(.seq
(.reg [⟨(some 11), none, .mov (.t 2)⟩,
 ⟨(some 12), none, .mov (.t 1)⟩,
 ⟨(some 13), none, .bin .sub (.t 11) (.t 12)⟩,
 ⟨(some 6), none, .mov (.t 13)⟩] [] false)
(.seq
(.reg [⟨(some 14), none, .mov (.t 6)⟩,
 ⟨(some 15), none, .bin .geq (.t 14) (.c (.int .i64 8))⟩] [] false)
(.cond (.t 15)
 (.seq
 (.reg [⟨(some 16), none, .mov (.t 6)⟩,
  ⟨(some 17), none, .conv .u64 (.t 16)⟩,
  ⟨(some 7), none, .alc (.int .u64 0)⟩,
  ⟨none, none, .store 1 (.t 7) (.t 17)⟩] [] false)
 (.seq
 (.reg [⟨(some 18), none, .mov (.t 6)⟩,
  ⟨(some 19), none, .call (.c (.fn 278 [] [])) [(.t 18)]⟩,
  ⟨(some 8), none, .mov (.t 19)⟩] [] false)
 (.seq
 (.reg [⟨(some 20), none, .mov (.t 1)⟩,
  ⟨(some 21), none, .mov (.t 6)⟩,
  ⟨(some 22), none, .bin .quo (.t 21) (.c (.int .i64 4))⟩,
  ⟨(some 23), none, .bin .mul (.t 22) (.c (.int .i64 2))⟩,
  ⟨(some 24), none, .bin .add (.t 20) (.t 23)⟩,
  ⟨(some 25), none, .bin .sub (.t 24) (.c (.int .i64 1))⟩,
  ⟨(some 9), none, .mov (.t 25)⟩] [] false)
 (.block 0
  (.loop
   (.seq
   (.seq
   (.reg [⟨(some 26), none, .mov (.t 9)⟩,
    ⟨(some 27), none, .mov (.t 1)⟩,
    ⟨(some 28), none, .mov (.t 6)⟩,
    ⟨(some 29), none, .bin .quo (.t 28) (.c (.int .i64 4))⟩,
    ⟨(some 30), none, .bin .mul (.t 29) (.c (.int .i64 2))⟩,
    ⟨(some 31), none, .bin .add (.t 27) (.t 30)⟩,
    ⟨(some 32), none, .bin .add (.t 31) (.c (.int .i64 1))⟩,
    ⟨(some 33), none, .bin .leq (.t 26) (.t 32)⟩] [] false)
   (.cond (.t 33)
    .skip
    (.exit 0)))
   (.seq
   (.block 1
    (.seq
    (.reg [⟨(some 36), none, .call (.c (.fn 279 [] [])) [(.t 7)]⟩,
     ⟨(some 37), none, .mov (.t 8)⟩,
     ⟨(some 38), none, .bin .sub (.t 37) (.c (.int .u64 1))⟩,
     ⟨(some 39), none, .bin .and (.t 36) (.t 38)⟩,
     ⟨(some 40), none, .conv .i64 (.t 39)⟩,
     ⟨(some 10), none, .mov (.t 40)⟩] [] false)
    (.seq
    (.seq
    (.reg [⟨(some 41), none, .mov (.t 10)⟩,
     ⟨(some 42), none, .mov (.t 6)⟩,
     ⟨(some 43), none, .bin .geq (.t 41) (.t 42)⟩] [] false)
    (.cond (.t 43)
     (.reg [⟨(some 44), none, .mov (.t 10)⟩,
      ⟨(some 45), none, .mov (.t 6)⟩,
      ⟨(some 46), none, .bin .sub (.t 44) (.t 45)⟩,
      ⟨(some 10), none, .mov (.t 46)⟩] [] false)
     .skip))
    (.reg [⟨(some 47), none, .mov (.t 0)⟩,
     ⟨(some 48), none, .mov (.t 9)⟩,
     ⟨(some 49), none, .mov (.t 0)⟩,
     ⟨(some 50), none, .mov (.t 1)⟩,
     ⟨(some 51), none, .mov (.t 10)⟩,
     ⟨(some 52), none, .bin .add (.t 50) (.t 51)⟩,
     ⟨(some 53), none, .mov (.t 0)⟩,
     ⟨(some 54), none, .mov (.t 1)⟩,
     ⟨(some 55), none, .mov (.t 10)⟩,
     ⟨(some 56), none, .bin .add (.t 54) (.t 55)⟩,
     ⟨(some 57), none, .idx 1 (.t 53) (.t 56)⟩,
     ⟨(some 58), none, .load false 1 (.t 57)⟩,
     ⟨(some 59), none, .mov (.t 0)⟩,
     ⟨(some 60), none, .mov (.t 9)⟩,
     ⟨(some 61), none, .idx 1 (.t 59) (.t 60)⟩,
     ⟨(some 62), none, .load false 1 (.t 61)⟩,
     ⟨(some 63), none, .idx 1 (.t 47) (.t 48)⟩,
     ⟨none, none, .store 1 (.t 63) (.t 58)⟩,
     ⟨(some 64), none, .idx 1 (.t 49) (.t 52)⟩,
     ⟨none, none, .store 1 (.t 64) (.t 62)⟩] [] false))))
   (.reg [⟨(some 34), none, .mov (.t 9)⟩,
    ⟨(some 35), none, .bin .add (.t 34) (.c (.int .i64 1))⟩,
    ⟨(some 9), none, .mov (.t 35)⟩] [] false))))))))
 .skip)))⟩
-- 236 slices.choosePivotOrdered[int]
def n_slices_choosePivotOrdered_int : Nat := 236
def af_slices_choosePivotOrdered_int : AF := ⟨57, [.tmp 6, .tmp 7],
(.seq
(.reg [⟨(some 6), none, .mov (.c (.int .i64 0))⟩,
 ⟨(some 7), none, .mov (.c (.int .i64 0))⟩] [] false)
(.seq
(.reg [⟨(some 13), none, .mov (.t 2)⟩,
 ⟨(some 14), none, .mov (.t 1)⟩,
 ⟨(some 15), none, .bin .sub (.t 13) (.t 14)⟩,
 ⟨(some 8), none, .mov (.t 15)⟩] [] false)
(.seq
(.reg [⟨(some 9), none, .alc (.int .i64 0)⟩] [] false)
(.seq
(.reg [⟨(some 16), none, .mov (.t 1)⟩,
 ⟨(some 17), none, .mov (.t 8)⟩,
 ⟨(some 18), none, .bin .quo (.t 17) (.c (.int .i64 4))⟩,
 ⟨(some 19), none, .bin .mul (.t 18) (.c (.int .i64 1))⟩,
 ⟨(some 20), none, .bin .add (.t 16) (.t 19)⟩,
 ⟨(some 10), none, .mov (.t 20)⟩] [] false)
(.seq
(.reg [⟨(some 21), none, .mov (.t 1)⟩,
 ⟨(some 22), none, .mov (.t 8)⟩,
 ⟨(some 23), none, .bin .quo (.t 22) (.c (.int .i64 4))⟩,
 ⟨(some 24), none, .bin .mul (.t 23) (.c (.int .i64 2))⟩,
 ⟨(some 25), none, .bin .add (.t 21) (.t 24)⟩,
 ⟨(some 11), none, .mov (.t 25)⟩] [] false)
(.seq
(.reg [⟨(some 26), none, .mov (.t 1)⟩,
 ⟨(some 27), none, .mov (.t 8)⟩,
 ⟨(some 28), none, .bin .quo (.t 27) (.c (.int .i64 4))⟩,
 ⟨(some 29), none, .bin .mul (.t 28) (.c (.int .i64 3))⟩,
 ⟨(some 30), none, .bin .add (.t 26) (.t 29)⟩,
 ⟨(some 12), none, .mov (.t 30)⟩] [] false)
(.seq
(.seq
(.reg [⟨(some 31), none, .mov (.t 8)⟩,
 ⟨(some 32), none, .bin .geq (.t 31) (.c (.int .i64 8))⟩] [] false)
(.cond (.t 32)
 (.seq
 (.seq
 (.reg [⟨(some 33), none, .mov (.t 8)⟩,
  ⟨(some 34), none, .bin .geq (.t 33) (.c (.int .i64 50))⟩] [] false)
 (.cond (.t 34)
  (.seq
  (.reg [⟨(some 35), none, .mov (.t 0)⟩,
   ⟨(some 36), none, .mov (.t 10)⟩,
   ⟨(some 37), none, .call (.c (.fn 280 [] [])) [(.t 35), (.t 36), (.t 9)]⟩,
   ⟨(some 10), none, .mov (.t 37)⟩] [] false)
  (.seq
  (.reg [⟨(some 38), none, .mov (.t 0)⟩,
   ⟨(some 39), none, .mov (.t 11)⟩,
   ⟨(some 40), none, .call (.c (.fn 280 [] [])) [(.t 38), (.t 39), (.t 9)]⟩,
   ⟨(some 11), none, .mov (.t 40)⟩] [] false)
  (.reg [⟨(some 41), none, .mov (.t 0)⟩,
   ⟨(some 42), none, .mov (.t 12)⟩,
   ⟨(some 43), none, .call (.c (.fn 280 [] [])) [(.t 41), (.t 42), (.t 9)]⟩,
   ⟨(some 12), none, .mov (.t 43)⟩] [] false)))
  .skip))
 (.reg [⟨(some 44), none, .mov (.t 0)⟩,
  ⟨(some 45), none, .mov (.t 10)⟩,
  ⟨(some 46), none, .mov (.t 11)⟩,
  ⟨(some 47), none, .mov (.t 12)⟩,
  ⟨(some 48), none, .call (.c (.fn 281 [] [])) [(.t 44), (.t 45), (.t 46), (.t 47), (.t 9)]⟩,
  ⟨(some 11), none, .mov (.t 48)⟩] [] false))
 .skip))
(.seq
(.reg [⟨(some 49), none, .load false 1 (.t 9)⟩] [] false)
(.block 0
 (.seq
 (.reg [⟨(some 52), none, .bin .eql (.t 49) (.c (.int .i64 0))⟩,
  ⟨(some 51), none, .mov (.t 52)⟩] [] false)
 (.cond (.t 51)
  (.seq
  (.reg [⟨(some 53), none, .mov (.t 11)⟩,
   ⟨(some 6), none, .mov (.t 53)⟩,
   ⟨(some 7), none, .mov (.c (.int .i64 1))⟩] [] false)
  .ret)
  (.seq
  (.reg [⟨(some 55), none, .bin .eql (.t 49) (.c (.int .i64 12))⟩,
   ⟨(some 54), none, .mov (.t 55)⟩] [] false)
  (.cond (.t 54)
   (.seq
   (.reg [⟨(some 56), none, .mov (.t 11)⟩,
    ⟨(some 6), none, .mov (.t 56)⟩,
    ⟨(some 7), none, .mov (.c (.int .i64 2))⟩] [] false)
   .ret)
   (.seq
   (.reg [⟨(some 50), none, .mov (.t 11)⟩,
    ⟨(some 6), none, .mov (.t 50)⟩,
    ⟨(some 7), none, .mov (.c (.int .i64 0))⟩] [] false)
   .ret))))))))))))))⟩
-- 237 slices.reverseRangeOrdered[int]
def n_slices_reverseRangeOrdered_int : Nat := 237
def af_slices_reverseRangeOrdered_int : AF := ⟨32, [],
(.seq
(.reg [⟨(some 8), none, .mov (.t 1)⟩,
 ⟨(some 6), none, .mov (.t 8)⟩] [] false)
(.seq
(.reg [⟨(some 9), none, .mov (.t 2)⟩,
 ⟨(some 10), none, .bin .sub (.t 9) (.c (.int .i64 1))⟩,
 ⟨(some 7), none, .mov (.t 10)⟩] [] false)
(.block 0
 (.loop
  (.seq
  (.seq
  (.reg [⟨(some 11), none, .mov (.t 6)⟩,
   ⟨(some 12), none, .mov (.t 7)⟩,
   ⟨(some 13), none, .bin .lss (.t 11) (.t 12)⟩] [] false)
  (.cond (.t 13)
   .skip
   (.exit 0)))
  (.block 1
   (.seq
   (.reg [⟨(some 14), none, .mov (.t 0)⟩,
    ⟨(some 15), none, .mov (.t 6)⟩,
    ⟨(some 16), none, .mov (.t 0)⟩,
    ⟨(some 17), none, .mov (.t 7)⟩,
    ⟨(some 18), none, .mov (.t 0)⟩,
    ⟨(some 19), none, .mov (.t 7)⟩,
    ⟨(some 20), none, .idx 1 (.t 18) (.t 19)⟩,
    ⟨(some 21), none, .load false 1 (.t 20)⟩,
    ⟨(some 22), none, .mov (.t 0)⟩,
    ⟨(some 23), none, .mov (.t 6)⟩,
    ⟨(some 24), none, .idx 1 (.t 22) (.t 23)⟩,
    ⟨(some 25), none, .load false 1 (.t 24)⟩,
    ⟨(some 26), none, .idx 1 (.t 14) (.t 15)⟩,
    ⟨none, none, .store 1 (.t 26) (.t 21)⟩,
    ⟨(some 27), none, .idx 1 (.t 16) (.t 17)⟩,
    ⟨none, none, .store 1 (.t 27) (.t 25)⟩] [] false)
   (.seq
   (.reg [⟨(some 28), none, .mov (.t 6)⟩,
    ⟨(some 29), none, .bin .add (.t 28) (.c (.int .i64 1))⟩,
    ⟨(some 6), none, .mov (.t 29)⟩] [] false)
   (.reg [⟨(some 30), none, .mov (.t 7)⟩,
    ⟨(some 31), none, .bin .sub (.t 30) (.c (.int .i64 1))⟩,
    ⟨(some 7), none, .mov (.t 31)⟩] [] false)))))))))⟩
-- 238 slices.partialInsertionSortOrdered[int]
def n_slices_partialInsertionSortOrdered_int : Nat := 238
def af_slices_partialInsertionSortOrdered_int : AF := ⟨133, [.tmp 6],
(.seq
(.reg [⟨(some 6), none, .mov (.c (.bool false))⟩] [] false)
(.seq
(.reg [⟨(some 11), none, .mov (.t 1)⟩,
 ⟨(some 12), none, .bin .add (.t 11) (.c (.int .i64 1))⟩,
 ⟨(some 7), none, .mov (.t 12)⟩] [] false)
(.seq
(.seq
(.reg [⟨(some 8), none, .mov (.c (.int .i64 0))⟩] [] false)
(.block 0
 (.loop
  (.seq
  (.seq
  (.reg [⟨(some 13), none, .mov (.t 8)⟩,
   ⟨(some 14), none, .bin .lss (.t 13) (.c (.int .i64 5))⟩] [] false)
  (.cond (.t 14)
   .skip
   (.exit 0)))
  (.seq
  (.block 1
   (.seq
   (.block 2
    (.loop
     (.seq
     (.seq
     (.reg [⟨(some 17), none, .mov (.t 7)⟩,
      ⟨(some 18), none, .mov (.t 2)⟩,
      ⟨(some 19), none, .bin .lss (.t 17) (.t 18)⟩,
      ⟨(some 20), none, .mov (.t 19)⟩,
      ⟨(some 21), (some (20, true)), .mov (.t 0)⟩,
      ⟨(some 22), (some (20, true)), .mov (.t 7)⟩,
      ⟨(some 23), (some (20, true)), .idx 1 (.t 21) (.t 22)⟩,
      ⟨(some 24), (some (20, true)), .load false 1 (.t 23)⟩,
      ⟨(some 25), (some (20, true)), .mov (.t 0)⟩,
      ⟨(some 26), (some (20, true)), .mov (.t 7)⟩,
      ⟨(some 27), (some (20, true)), .bin .sub (.t 26) (.c (.int .i64 1))⟩,
      ⟨(some 28), (some (20, true)), .idx 1 (.t 25) (.t 27)⟩,
      ⟨(some 29), (some (20, true)), .load false 1 (.t 28)⟩,
      ⟨(some 30), (some (20, true)), .call (.c (.fn 164 [] [])) [(.t 24), (.t 29)]⟩,
      ⟨(some 31), (some (20, true)), .un .not (.t 30)⟩,
      ⟨(some 32), none, .pick (.t 20) (.t 31) (.c (.bool false))⟩] [] false)
     (.cond (.t 32)
      .skip
      (.exit 2)))
     (.block 3
      (.reg [⟨(some 33), none, .mov (.t 7)⟩,
       ⟨(some 34), none, .bin .add (.t 33) (.c (.int .i64 1))⟩,
       ⟨(some 7), none, .mov (.t 34)⟩] [] false)))))
   (.seq
   (.seq
   (.reg [⟨(some 35), none, .mov (.t 7)⟩,
    ⟨(some 36), none, .mov (.t 2)⟩,
    ⟨(some 37), none, .bin .eql (.t 35) (.t 36)⟩] [] false)
   (.cond (.t 37)
    (.seq
    (.reg [⟨(some 6), none, .mov (.c (.bool true))⟩] [] false)
    .ret)
    .skip))
   (.seq
   (.seq
   (.reg [⟨(some 38), none, .mov (.t 2)⟩,
    ⟨(some 39), none, .mov (.t 1)⟩,
    ⟨(some 40), none, .bin .sub (.t 38) (.t 39)⟩,
    ⟨(some 41), none, .bin .lss (.t 40) (.c (.int .i64 50))⟩] [] false)
   (.cond (.t 41)
    (.seq
    (.reg [⟨(some 6), none, .mov (.c (.bool false))⟩] [] false)
    .ret)
    .skip))
   (.seq
   (.reg [⟨(some 42), none, .mov (.t 0)⟩,
    ⟨(some 43), none, .mov (.t 7)⟩,
    ⟨(some 44), none, .mov (.t 0)⟩,
    ⟨(some 45), none, .mov (.t 7)⟩,
    ⟨(some 46), none, .bin .sub (.t 45) (.c (.int .i64 1))⟩,
    ⟨(some 47), none, .mov (.t 0)⟩,
    ⟨(some 48), none, .mov (.t 7)⟩,
    ⟨(some 49), none, .bin .sub (.t 48) (.c (.int .i64 1))⟩,
    ⟨(some 50), none, .idx 1 (.t 47) (.t 49)⟩,
    ⟨(some 51), none, .load false 1 (.t 50)⟩,
    ⟨(some 52), none, .mov (.t 0)⟩,
    ⟨(some 53), none, .mov (.t 7)⟩,
    ⟨(some 54), none, .idx 1 (.t 52) (.t 53)⟩,
    ⟨(some 55), none, .load false 1 (.t 54)⟩,
    ⟨(some 56), none, .idx 1 (.t 42) (.t 43)⟩,
    ⟨none, none, .store 1 (.t 56) (.t 51)⟩,
    ⟨(some 57), none, .idx 1 (.t 44) (.t 46)⟩,
    ⟨none, none, .store 1 (.t 57) (.t 55)⟩] [] false)
   (.seq
   (.seq
   (.reg [⟨(some 58), none, .mov (.t 7)⟩,
    ⟨(some 59), none, .mov (.t 1)⟩,
    ⟨(some 60), none, .bin .sub (.t 58) (.t 59)⟩,
    ⟨(some 61), none, .bin .geq (.t 60) (.c (.int .i64 2))⟩] [] false)
   (.cond (.t 61)
    (.seq
    (.reg [⟨(some 62), none, .mov (.t 7)⟩,
     ⟨(some 63), none, .bin .sub (.t 62) (.c (.int .i64 1))⟩,
     ⟨(some 9), none, .mov (.t 63)⟩] [] false)
    (.block 4
     (.loop
      (.seq
      (.seq
      (.reg [⟨(some 64), none, .mov (.t 9)⟩,
       ⟨(some 65), none, .bin .geq (.t 64) (.c (.int .i64 1))⟩] [] false)
      (.cond (.t 65)
       .skip
       (.exit 4)))
      (.seq
      (.block 5
       (.seq
       (.seq
       (.reg [⟨(some 68), none, .mov (.t 0)⟩,
        ⟨(some 69), none, .mov (.t 9)⟩,
        ⟨(some 70), none, .idx 1 (.t 68) (.t 69)⟩,
        ⟨(some 71), none, .load false 1 (.t 70)⟩,
        ⟨(some 72), none, .mov (.t 0)⟩,
        ⟨(some 73), none, .mov (.t 9)⟩,
        ⟨(some 74), none, .bin .sub (.t 73) (.c (.int .i64 1))⟩,
        ⟨(some 75), none, .idx 1 (.t 72) (.t 74)⟩,
        ⟨(some 76), none, .load false 1 (.t 75)⟩,
        ⟨(some 77), none, .call (.c (.fn 164 [] [])) [(.t 71), (.t 76)]⟩,
        ⟨(some 78), none, .un .not (.t 77)⟩] [] false)
       (.cond (.t 78)
        (.exit 4)
        .skip))
       (.reg [⟨(some 79), none, .mov (.t 0)⟩,
        ⟨(some 80), none, .mov (.t 9)⟩,
        ⟨(some 81), none, .mov (.t 0)⟩,
        ⟨(some 82), none, .mov (.t 9)⟩,
        ⟨(some 83), none, .bin .sub (.t 82) (.c (.int .i64 1))⟩,
        ⟨(some 84), none, .mov (.t 0)⟩,
        ⟨(some 85), none, .mov (.t 9)⟩,
        ⟨(some 86), none, .bin .sub (.t 85) (.c (.int .i64 1))⟩,
        ⟨(some 87), none, .idx 1 (.t 84) (.t 86)⟩,
        ⟨(some 88), none, .load false 1 (.t 87)⟩,
        ⟨(some 89), none, .mov (.t 0)⟩,
        ⟨(some 90), none, .mov (.t 9)⟩,
        ⟨(some 91), none, .idx 1 (.t 89) (.t 90)⟩,
        ⟨(some 92), none, .load false 1 (.t 91)⟩,
        ⟨(some 93), none, .idx 1 (.t 79) (.t 80)⟩,
        ⟨none, none, .store 1 (.t 93) (.t 88)⟩,
        ⟨(some 94), none, .idx 1 (.t 81) (.t 83)⟩,
        ⟨none, none, .store 1 (.t 94) (.t 92)⟩] [] false)))
      (.reg [⟨(some 66), none, .mov (.t 9)⟩,
       ⟨(some 67), none, .bin .sub (.t 66) (.c (.int .i64 1))⟩,
       ⟨(some 9), none, .mov (.t 67)⟩] [] false))))))
    .skip))
   (.seq
   (.reg [⟨(some 95), none, .mov (.t 2)⟩,
    ⟨(some 96), none, .mov (.t 7)⟩,
    ⟨(some 97), none, .bin .sub (.t 95) (.t 96)⟩,
    ⟨(some 98), none, .bin .geq (.t 97) (.c (.int .i64 2))⟩] [] false)
   (.cond (.t 98)
    (.seq
    (.reg [⟨(some 99), none, .mov (.t 7)⟩,
     ⟨(some 100), none, .bin .add (.t 99) (.c (.int .i64 1))⟩,
     ⟨(some 10), none, .mov (.t 100)⟩] [] false)
    (.block 6
     (.loop
      (.seq
      (.seq
      (.reg [⟨(some 101), none, .mov (.t 10)⟩,
       ⟨(some 102), none, .mov (.t 2)⟩,
       ⟨(some 103), none, .bin .lss (.t 101) (.t 102)⟩] [] false)
      (.cond (.t 103)
       .skip
       (.exit 6)))
      (.seq
      (.block 7
       (.seq
       (.seq
       (.reg [⟨(some 106), none, .mov (.t 0)⟩,
        ⟨(some 107), none, .mov (.t 10)⟩,
        ⟨(some 108), none, .idx 1 (.t 106) (.t 107)⟩,
        ⟨(some 109), none, .load false 1 (.t 108)⟩,
        ⟨(some 110), none, .mov (.t 0)⟩,
        ⟨(some 111), none, .mov (.t 10)⟩,
        ⟨(some 112), none, .bin .sub (.t 111) (.c (.int .i64 1))⟩,
        ⟨(some 113), none, .idx 1 (.t 110) (.t 112)⟩,
        ⟨(some 114), none, .load false 1 (.t 113)⟩,
        ⟨(some 115), none, .call (.c (.fn 164 [] [])) [(.t 109), (.t 114)]⟩,
        ⟨(some 116), none, .un .not (.t 115)⟩] [] false)
       (.cond (.t 116)
        (.exit 6)
        .skip))
       (.reg [⟨(some 117), none, .mov (.t 0)⟩,
        ⟨(some 118), none, .mov (.t 10)⟩,
        ⟨(some 119), none, .mov (.t 0)⟩,
        ⟨(some 120), none, .mov (.t 10)⟩,
        ⟨(some 121), none, .bin .sub (.t 120) (.c (.int .i64 1))⟩,
        ⟨(some 122), none, .mov (.t 0)⟩,
        ⟨(some 123), none, .mov (.t 10)⟩,
        ⟨(some 124), none, .bin .sub (.t 123) (.c (.int .i64 1))⟩,
        ⟨(some 125), none, .idx 1 (.t 122) (.t 124)⟩,
        ⟨(some 126), none, .load false 1 (.t 125)⟩,
        ⟨(some 127), none, .mov (.t 0)⟩,
        ⟨(some 128), none, .mov (.t 10)⟩,
        ⟨(some 129), none, .idx 1 (.t 127) (.t 128)⟩,
        ⟨(some 130), none, .load false 1 (.t 129)⟩,
        ⟨(some 131), none, .idx 1 (.t 117) (.t 118)⟩,
        ⟨none, none, .store 1 (.t 131) (.t 126)⟩,
        ⟨(some 132), none, .idx 1 (.t 119) (.t 121)⟩,
        ⟨none, none, .store 1 (.t 132) (.t 130)⟩] [] false)))
      (.reg [⟨(some 104), none, .mov (.t 10)⟩,
       ⟨(some 105), none, .bin .add (.t 104) (.c (.int .i64 1))⟩,
       ⟨(some 10), none, .mov (.t 105)⟩] [] false))))))
    .skip))))))))
  (.reg [⟨(some 15), none, .mov (.t 8)⟩,
   ⟨(some 16), none, .bin .add (.t 15) (.c (.int .i64 1))⟩,
   ⟨(some 8), none, .mov (.t 16)⟩] [] false))))))
(.seq
(.reg [⟨(some 6), none, .mov (.c (.bool false))⟩] [] false)
.ret))))⟩
-- 239 slices.partitionEqualOrdered[int]
def n_slices_partitionEqualOrdered_int : Nat := 239
def af_slices_partitionEqualOrdered_int : AF := ⟨84, [.tmp 8],
(.seq
(.reg [⟨(some 8), none, .mov (.c (.int .i64 0))⟩] [] false)
(.seq
(.reg [⟨(some 11), none, .mov (.t 0)⟩,
 ⟨(some 12), none, .mov (.t 1)⟩,
 ⟨(some 13), none, .mov (.t 0)⟩,
 ⟨(some 14), none, .mov (.t 3)⟩,
 ⟨(some 15), none, .mov (.t 0)⟩,
 ⟨(some 16), none, .mov (.t 3)⟩,
 ⟨(some 17), none, .idx 1 (.t 15) (.t 16)⟩,
 ⟨(some 18), none, .load false 1 (.t 17)⟩,
 ⟨(some 19), none, .mov (.t 0)⟩,
 ⟨(some 20), none, .mov (.t 1)⟩,
 ⟨(some 21), none, .idx 1 (.t 19) (.t 20)⟩,
 ⟨(some 22), none, .load false 1 (.t 21)⟩,
 ⟨(some 23), none, .idx 1 (.t 11) (.t 12)⟩,
 ⟨none, none, .store 1 (.t 23) (.t 18)⟩,
 ⟨(some 24), none, .idx 1 (.t 13) (.t 14)⟩,
 ⟨none, none, .store 1 (.t 24) (.t 22)⟩] [] false)
(.seq
(.reg [⟨(some 25), none, .mov (.t 1)⟩,
 ⟨(some 26), none, .bin .add (.t 25) (.c (.int .i64 1))⟩,
 ⟨(some 27), none, .mov (.t 2)⟩,
 ⟨(some 28), none, .bin .sub (.t 27) (.c (.int .i64 1))⟩,
 ⟨(some 9), none, .mov (.t 26)⟩,
 ⟨(some 10), none, .mov (.t 28)⟩] [] false)
(.seq
(.block 0
 (.loop
  (.block 1
   (.seq
   (.block 2
    (.loop
     (.seq
     (.seq
     (.reg [⟨(some 29), none, .mov (.t 9)⟩,
      ⟨(some 30), none, .mov (.t 10)⟩,
      ⟨(some 31), none, .bin .leq (.t 29) (.t 30)⟩,
      ⟨(some 32), none, .mov (.t 31)⟩,
      ⟨(some 33), (some (32, true)), .mov (.t 0)⟩,
      ⟨(some 34), (some (32, true)), .mov (.t 1)⟩,
      ⟨(some 35), (some (32, true)), .idx 1 (.t 33) (.t 34)⟩,
      ⟨(some 36), (some (32, true)), .load false 1 (.t 35)⟩,
      ⟨(some 37), (some (32, true)), .mov (.t 0)⟩,
      ⟨(some 38), (some (32, true)), .mov (.t 9)⟩,
      ⟨(some 39), (some (32, true)), .idx 1 (.t 37) (.t 38)⟩,
      ⟨(some 40), (some (32, true)), .load false 1 (.t 39)⟩,
      ⟨(some 41), (some (32, true)), .call (.c (.fn 164 [] [])) [(.t 36), (.t 40)]⟩,
      ⟨(some 42), (some (32, true)), .un .not (.t 41)⟩,
      ⟨(some 43), none, .pick (.t 32) (.t 42) (.c (.bool false))⟩] [] false)
     (.cond (.t 43)
      .skip
      (.exit 2)))
     (.block 3
      (.reg [⟨(some 44), none, .mov (.t 9)⟩,
       ⟨(some 45), none, .bin .add (.t 44) (.c (.int .i64 1))⟩,
       ⟨(some 9), none, .mov (.t 45)⟩] [] false)))))
   (.seq
   (.block 4
    (.loop
     (.seq
     (.seq
     (.reg [⟨(some 46), none, .mov (.t 9)⟩,
      ⟨(some 47), none, .mov (.t 10)⟩,
      ⟨(some 48), none, .bin .leq (.t 46) (.t 47)⟩,
      ⟨(some 49), none, .mov (.t 48)⟩,
      ⟨(some 50), (some (49, true)), .mov (.t 0)⟩,
      ⟨(some 51), (some (49, true)), .mov (.t 1)⟩,
      ⟨(some 52), (some (49, true)), .idx 1 (.t 50) (.t 51)⟩,
      ⟨(some 53), (some (49, true)), .load false 1 (.t 52)⟩,
      ⟨(some 54), (some (49, true)), .mov (.t 0)⟩,
      ⟨(some 55), (some (49, true)), .mov (.t 10)⟩,
      ⟨(some 56), (some (49, true)), .idx 1 (.t 54) (.t 55)⟩,
      ⟨(some 57), (some (49, true)), .load false 1 (.t 56)⟩,
      ⟨(some 58), (some (49, true)), .call (.c (.fn 164 [] [])) [(.t 53), (.t 57)]⟩,
      ⟨(some 59), none, .pick (.t 49) (.t 58) (.c (.bool false))⟩] [] false)
     (.cond (.t 59)
      .skip
      (.exit 4)))
     (.block 5
      (.reg [⟨(some 60), none, .mov (.t 10)⟩,
       ⟨(some 61), none, .bin .sub (.t 60) (.c (.int .i64 1))⟩,
       ⟨(some 10), none, .mov (.t 61)⟩] [] false)))))
   (.seq
   (.seq
   (.reg [⟨(some 62), none, .mov (.t 9)⟩,
    ⟨(some 63), none, .mov (.t 10)⟩,
    ⟨(some 64), none, .bin .gtr (.t 62) (.t 63)⟩] [] false)
   (.cond (.t 64)
    (.exit 0)
    .skip))
   (.seq
   (.reg [⟨(some 65), none, .mov (.t 0)⟩,
    ⟨(some 66), none, .mov (.t 9)⟩,
    ⟨(some 67), none, .mov (.t 0)⟩,
    ⟨(some 68), none, .mov (.t 10)⟩,
    ⟨(some 69), none, .mov (.t 0)⟩,
    ⟨(some 70), none, .mov (.t 10)⟩,
    ⟨(some 71), none, .idx 1 (.t 69) (.t 70)⟩,
    ⟨(some 72), none, .load false 1 (.t 71)⟩,
    ⟨(some 73), none, .mov (.t 0)⟩,
    ⟨(some 74), none, .mov (.t 9)⟩,
    ⟨(some 75), none, .idx 1 (.t 73) (.t 74)⟩,
    ⟨(some 76), none, .load false 1 (.t 75)⟩,
    ⟨(some 77), none, .idx 1 (.t 65) (.t 66)⟩,
    ⟨none, none, .store 1 (.t 77) (.t 72)⟩,
    ⟨(some 78), none, .idx 1 (.t 67) (.t 68)⟩,
    ⟨none, none, .store 1 (.t 78) (.t 76)⟩] [] false)
   (.seq
   (.reg [⟨(some 79), none, .mov (.t 9)⟩,
    ⟨(some 80), none, .bin .add (.t 79) (.c (.int .i64 1))⟩,
    ⟨(some 9), none, .mov (.t 80)⟩] [] false)
   (.reg [⟨(some 81), none, .mov (.t 10)⟩,
    ⟨(some 82), none, .bin .sub (.t 81) (.c (.int .i64 1))⟩,
    ⟨(some 10), none, .mov (.t 82)⟩] [] false)))))))))
(.seq
(.reg [⟨(some 83), none, .mov (.t 9)⟩,
 ⟨(some 8), none, .mov (.t 83)⟩] [] false)
.ret)))))⟩
-- 240 slices.partitionOrdered[int]
def n_slices_partitionOrdered_int : Nat := 240
def af_slices_partitionOrdered_int : AF := ⟨168, [.tmp 8, .tmp 9],
(.seq
(.reg [⟨(some 8), none, .mov (.c (.int .i64 0))⟩,
 ⟨(some 9), none, .mov (.c (.bool false))⟩] [] false)
(.seq
(.reg [⟨(some 12), none, .mov (.t 0)⟩,
 ⟨(some 13), none, .mov (.t 1)⟩,
 ⟨(some 14), none, .mov (.t 0)⟩,
 ⟨(some 15), none, .mov (.t 3)⟩,
 ⟨(some 16), none, .mov (.t 0)⟩,
 ⟨(some 17), none, .mov (.t 3)⟩,
 ⟨(some 18), none, .idx 1 (.t 16) (.t 17)⟩,
 ⟨(some 19), none, .load false 1 (.t 18)⟩,
 ⟨(some 20), none, .mov (.t 0)⟩,
 ⟨(some 21), none, .mov (.t 1)⟩,
 ⟨(some 22), none, .idx 1 (.t 20) (.t 21)⟩,
 ⟨(some 23), none, .load false 1 (.t 22)⟩,
 ⟨(some 24), none, .idx 1 (.t 12) (.t 13)⟩,
 ⟨none, none, .store 1 (.t 24) (.t 19)⟩,
 ⟨(some 25), none, .idx 1 (.t 14) (.t 15)⟩,
 ⟨none, none, .store 1 (.t 25) (.t 23)⟩] [] false)
(.seq
(.reg [⟨(some 26), none, .mov (.t 1)⟩,
 ⟨(some 27), none, .bin .add (.t 26) (.c (.int .i64 1))⟩,
 ⟨(some 28), none, .mov (.t 2)⟩,
 ⟨(some 29), none, .bin .sub (.t 28) (.c (.int .i64 1))⟩,
 ⟨(some 10), none, .mov (.t 27)⟩,
 ⟨(some 11), none, .mov (.t 29)⟩] [] false)
(.seq
(.block 0
 (.loop
  (.seq
  (.seq
  (.reg [⟨(some 30), none, .mov (.t 10)⟩,
   ⟨(some 31), none, .mov (.t 11)⟩,
   ⟨(some 32), none, .bin .leq (.t 30) (.t 31)⟩,
   ⟨(some 33), none, .mov (.t 32)⟩,
   ⟨(some 34), (some (33, true)), .mov (.t 0)⟩,
   ⟨(some 35), (some (33, true)), .mov (.t 10)⟩,
   ⟨(some 36), (some (33, true)), .idx 1 (.t 34) (.t 35)⟩,
   ⟨(some 37), (some (33, true)), .load false 1 (.t 36)⟩,
   ⟨(some 38), (some (33, true)), .mov (.t 0)⟩,
   ⟨(some 39), (some (33, true)), .mov (.t 1)⟩,
   ⟨(some 40), (some (33, true)), .idx 1 (.t 38) (.t 39)⟩,
   ⟨(some 41), (some (33, true)), .load false 1 (.t 40)⟩,
   ⟨(some 42), (some (33, true)), .call (.c (.fn 164 [] [])) [(.t 37), (.t 41)]⟩,
   ⟨(some 43), none, .pick (.t 33) (.t 42) (.c (.bool false))⟩] [] false)
  (.cond (.t 43)
   .skip
   (.exit 0)))
  (.block 1
   (.reg [⟨(some 44), none, .mov (.t 10)⟩,
    ⟨(some 45), none, .bin .add (.t 44) (.c (.int .i64 1))⟩,
    ⟨(some 10), none, .mov (.t 45)⟩] [] false)))))
(.seq
(.block 2
 (.loop
  (.seq
  (.seq
  (.reg [⟨(some 46), none, .mov (.t 10)⟩,
   ⟨(some 47), none, .mov (.t 11)⟩,
   ⟨(some 48), none, .bin .leq (.t 46) (.t 47)⟩,
   ⟨(some 49), none, .mov (.t 48)⟩,
   ⟨(some 50), (some (49, true)), .mov (.t 0)⟩,
   ⟨(some 51), (some (49, true)), .mov (.t 11)⟩,
   ⟨(some 52), (some (49, true)), .idx 1 (.t 50) (.t 51)⟩,
   ⟨(some 53), (some (49, true)), .load false 1 (.t 52)⟩,
   ⟨(some 54), (some (49, true)), .mov (.t 0)⟩,
   ⟨(some 55), (some (49, true)), .mov (.t 1)⟩,
   ⟨(some 56), (some (49, true)), .idx 1 (.t 54) (.t 55)⟩,
   ⟨(some 57), (some (49, true)), .load false 1 (.t 56)⟩,
   ⟨(some 58), (some (49, true)), .call (.c (.fn 164 [] [])) [(.t 53), (.t 57)]⟩,
   ⟨(some 59), (some (49, true)), .un .not (.t 58)⟩,
   ⟨(some 60), none, .pick (.t 49) (.t 59) (.c (.bool false))⟩] [] false)
  (.cond (.t 60)
   .skip
   (.exit 2)))
  (.block 3
   (.reg [⟨(some 61), none, .mov (.t 11)⟩,
    ⟨(some 62), none, .bin .sub (.t 61) (.c (.int .i64 1))⟩,
    ⟨(some 11), none, .mov (.t 62)⟩] [] false)))))
(.seq
(.seq
(.reg [⟨(some 63), none, .mov (.t 10)⟩,
 ⟨(some 64), none, .mov (.t 11)⟩,
 ⟨(some 65), none, .bin .gtr (.t 63) (.t 64)⟩] [] false)
(.cond (.t 65)
 (.seq
 (.reg [⟨(some 66), none, .mov (.t 0)⟩,
  ⟨(some 67), none, .mov (.t 11)⟩,
  ⟨(some 68), none, .mov (.t 0)⟩,
  ⟨(some 69), none, .mov (.t 1)⟩,
  ⟨(some 70), none, .mov (.t 0)⟩,
  ⟨(some 71), none, .mov (.t 1)⟩,
  ⟨(some 72), none, .idx 1 (.t 70) (.t 71)⟩,
  ⟨(some 73), none, .load false 1 (.t 72)⟩,
  ⟨(some 74), none, .mov (.t 0)⟩,
  ⟨(some 75), none, .mov (.t 11)⟩,
  ⟨(some 76), none, .idx 1 (.t 74) (.t 75)⟩,
  ⟨(some 77), none, .load false 1 (.t 76)⟩,
  ⟨(some 78), none, .idx 1 (.t 66) (.t 67)⟩,
  ⟨none, none, .store 1 (.t 78) (.t 73)⟩,
  ⟨(some 79), none, .idx 1 (.t 68) (.t 69)⟩,
  ⟨none, none, .store 1 (.t 79) (.t 77)⟩] [] false)
 (.seq
 (.reg [⟨(some 80), none, .mov (.t 11)⟩,
  ⟨(some 8), none, .mov (.t 80)⟩,
  ⟨(some 9), none, .mov (.c (.bool true))⟩] [] false)
 .ret))
 .skip))
(.seq
(.reg [⟨(some 81), none, .mov (.t 0)⟩,
 ⟨(some 82), none, .mov (.t 10)⟩,
 ⟨(some 83), none, .mov (.t 0)⟩,
 ⟨(some 84), none, .mov (.t 11)⟩,
 ⟨(some 85), none, .mov (.t 0)⟩,
 ⟨(some 86), none, .mov (.t 11)⟩,
 ⟨(some 87), none, .idx 1 (.t 85) (.t 86)⟩,
 ⟨(some 88), none, .load false 1 (.t 87)⟩,
 ⟨(some 89), none, .mov (.t 0)⟩,
 ⟨(some 90), none, .mov (.t 10)⟩,
 ⟨(some 91), none, .idx 1 (.t 89) (.t 90)⟩,
 ⟨(some 92), none, .load false 1 (.t 91)⟩,
 ⟨(some 93), none, .idx 1 (.t 81) (.t 82)⟩,
 ⟨none, none, .store 1 (.t 93) (.t 88)⟩,
 ⟨(some 94), none, .idx 1 (.t 83) (.t 84)⟩,
 ⟨none, none, .store 1 (.t 94) (.t 92)⟩] [] false)
(.seq
(.reg [⟨(some 95), none, .mov (.t 10)⟩,
 ⟨(some 96), none, .bin .add (.t 95) (.c (.int .i64 1))⟩,
 ⟨(some 10), none, .mov (.t 96)⟩] [] false)
(.seq
(.reg [⟨(some 97), none, .mov (.t 11)⟩,
 ⟨(some 98), none, .bin .sub (.t 97) (.c (.int .i64 1))⟩,
 ⟨(some 11), none, .mov (.t 98)⟩] [] false)
(.seq
(.block 4
 (.loop
  (.block 5
   (.seq
   (.block 6
    (.loop
     (.seq
     (.seq
     (.reg [⟨(some 99), none, .mov (.t 10)⟩,
      ⟨(some 100), none, .mov (.t 11)⟩,
      ⟨(some 101), none, .bin .leq (.t 99) (.t 100)⟩,
      ⟨(some 102), none, .mov (.t 101)⟩,
      ⟨(some 103), (some (102, true)), .mov (.t 0)⟩,
      ⟨(some 104), (some (102, true)), .mov (.t 10)⟩,
      ⟨(some 105), (some (102, true)), .idx 1 (.t 103) (.t 104)⟩,
      ⟨(some 106), (some (102, true)), .load false 1 (.t 105)⟩,
      ⟨(some 107), (some (102, true)), .mov (.t 0)⟩,
      ⟨(some 108), (some (102, true)), .mov (.t 1)⟩,
      ⟨(some 109), (some (102, true)), .idx 1 (.t 107) (.t 108)⟩,
      ⟨(some 110), (some (102, true)), .load false 1 (.t 109)⟩,
      ⟨(some 111), (some (102, true)), .call (.c (.fn 164 [] [])) [(.t 106), (.t 110)]⟩,
      ⟨(some 112), none, .pick (.t 102) (.t 111) (.c (.bool false))⟩] [] false)
     (.cond (.t 112)
      .skip
      (.exit 6)))
     (.block 7
      (.reg [⟨(some 113), none, .mov (.t 10)⟩,
       ⟨(some 114), none, .bin .add (.t 113) (.c (.int .i64 1))⟩,
       ⟨(some 10), none, .mov (.t 114)⟩] [] false)))))
   (.seq
   (.block 8
    (.loop
     (.seq
     (.seq
     (.reg [⟨(some 115), none, .mov (.t 10)⟩,
      ⟨(some 116), none, .mov (.t 11)⟩,
      ⟨(some 117), none, .bin .leq (.t 115) (.t 116)⟩,
      ⟨(some 118), none, .mov (.t 117)⟩,
      ⟨(some 119), (some (118, true)), .mov (.t 0)⟩,
      ⟨(some 120), (some (118, true)), .mov (.t 11)⟩,
      ⟨(some 121), (some (118, true)), .idx 1 (.t 119) (.t 120)⟩,
      ⟨(some 122), (some (118, true)), .load false 1 (.t 121)⟩,
      ⟨(some 123), (some (118, true)), .mov (.t 0)⟩,
      ⟨(some 124), (some (118, true)), .mov (.t 1)⟩,
      ⟨(some 125), (some (118, true)), .idx 1 (.t 123) (.t 124)⟩,
      ⟨(some 126), (some (118, true)), .load false 1 (.t 125)⟩,
      ⟨(some 127), (some (118, true)), .call (.c (.fn 164 [] [])) [(.t 122), (.t 126)]⟩,
      ⟨(some 128), (some (118, true)), .un .not (.t 127)⟩,
      ⟨(some 129), none, .pick (.t 118) (.t 128) (.c (.bool false))⟩] [] false)
     (.cond (.t 129)
      .skip
      (.exit 8)))
     (.block 9
      (.reg [⟨(some 130), none, .mov (.t 11)⟩,
       ⟨(some 131), none, .bin .sub (.t 130) (.c (.int .i64 1))⟩,
       ⟨(some 11), none, .mov (.t 131)⟩] [] false)))))
   (.seq
   (.seq
   (.reg [⟨(some 132), none, .mov (.t 10)⟩,
    ⟨(some 133), none, .mov (.t 11)⟩,
    ⟨(some 134), none, .bin .gtr (.t 132) (.t 133)⟩] [] false)
   (.cond (.t 134)
    (.exit 4)
    .skip))
   (.seq
   (.reg [⟨(some 135), none, .mov (.t 0)⟩,
    ⟨(some 136), none, .mov (.t 10)⟩,
    ⟨(some 137), none, .mov (.t 0)⟩,
    ⟨(some 138), none, .mov (.t 11)⟩,
    ⟨(some 139), none, .mov (.t 0)⟩,
    ⟨(some 140), none, .mov (.t 11)⟩,
    ⟨(some 141), none, .idx 1 (.t 139) (.t 140)⟩,
    ⟨(some 142), none, .load false 1 (.t 141)⟩,
    ⟨(some 143), none, .mov (.t 0)⟩,
    ⟨(some 144), none, .mov (.t 10)⟩,
    ⟨(some 145), none, .idx 1 (.t 143) (.t 144)⟩,
    ⟨(some 146), none, .load false 1 (.t 145)⟩,
    ⟨(some 147), none, .idx 1 (.t 135) (.t 136)⟩,
    ⟨none, none, .store 1 (.t 147) (.t 142)⟩,
    ⟨(some 148), none, .idx 1 (.t 137) (.t 138)⟩,
    ⟨none, none, .store 1 (.t 148) (.t 146)⟩] [] false)
   (.seq
   (.reg [⟨(some 149), none, .mov (.t 10)⟩,
    ⟨(some 150), none, .bin .add (.t 149) (.c (.int .i64 1))⟩,
    ⟨(some 10), none, .mov (.t 150)⟩] [] false)
   (.reg [⟨(some 151), none, .mov (.t 11)⟩,
    ⟨(some 152), none, .bin .sub (.t 151) (.c (.int .i64 1))⟩,
    ⟨(some 11), none, .mov (.t 152)⟩] [] false)))))))))
(.seq
(.reg [⟨(some 153), none, .mov (.t 0)⟩,
 ⟨(some 154), none, .mov (.t 11)⟩,
 ⟨(some 155), none, .mov (.t 0)⟩,
 ⟨(some 156), none, .mov (.t 1)⟩,
 ⟨(some 157), none, .mov (.t 0)⟩,
 ⟨(some 158), none, .mov (.t 1)⟩,
 ⟨(some 159), none, .idx 1 (.t 157) (.t 158)⟩,
 ⟨(some 160), none, .load false 1 (.t 159)⟩,
 ⟨(some 161), none, .mov (.t 0)⟩,
 ⟨(some 162), none, .mov (.t 11)⟩,
 ⟨(some 163), none, .idx 1 (.t 161) (.t 162)⟩,
 ⟨(some 164), none, .load false 1 (.t 163)⟩,
 ⟨(some 165), none, .idx 1 (.t 153) (.t 154)⟩,
 ⟨none, none, .store 1 (.t 165) (.t 160)⟩,
 ⟨(some 166), none, .idx 1 (.t 155) (.t 156)⟩,
 ⟨none, none, .store 1 (.t 166) (.t 164)⟩] [] false)
(.seq
(.reg [⟨(some 167), none, .mov (.t 11)⟩,
 ⟨(some 8), none, .mov (.t 167)⟩,
 ⟨(some 9), none, .mov (.c (.bool false))⟩] [] false)
.ret))))))))))))⟩
-- 241 math/bits.Len32
def n_math_bits_Len32 : Nat := 241
def af_math_bits_Len32 : AF := ⟨19, [.tmp 2],
(.seq
(.reg [⟨(some 2), none, .mov (.c (.int .i64 0))⟩] [] false)
(.seq
(.seq
(.reg [⟨(some 3), none, .mov (.t 0)⟩,
 ⟨(some 4), none, .bin .geq (.t 3) (.c (.int .u32 65536))⟩] [] false)
(.cond (.t 4)
 (.seq
 (.reg [⟨(some 5), none, .mov (.t 0)⟩,
  ⟨(some 6), none, .bin .shr (.t 5) (.c (.int .u64 16))⟩,
  ⟨(some 0), none, .mov (.t 6)⟩] [] false)
 (.reg [⟨(some 2), none, .mov (.c (.int .i64 16))⟩] [] false))
 .skip))
(.seq
(.seq
(.reg [⟨(some 7), none, .mov (.t 0)⟩,
 ⟨(some 8), none, .bin .geq (.t 7) (.c (.int .u32 256))⟩] [] false)
(.cond (.t 8)
 (.seq
 (.reg [⟨(some 9), none, .mov (.t 0)⟩,
  ⟨(some 10), none, .bin .shr (.t 9) (.c (.int .u64 8))⟩,
  ⟨(some 0), none, .mov (.t 10)⟩] [] false)
 (.reg [⟨(some 11), none, .mov (.t 2)⟩,
  ⟨(some 12), none, .bin .add (.t 11) (.c (.int .i64 8))⟩,
  ⟨(some 2), none, .mov (.t 12)⟩] [] false))
 .skip))
(.seq
(.reg [⟨(some 13), none, .mov (.t 2)⟩,
 ⟨(some 14), none, .mov (.t 0)⟩,
 ⟨(some 15), none, .conv .u8 (.t 14)⟩,
 ⟨(some 16), none, .sidx (.c (.str ⟨#[0, 1, 2, 2, 3, 3, 3, 3, 4, 4, 4, 4, 4, 4, 4, 4, 5, 5, 5, 5, 5, 5, 5, 5, 5, 5, 5, 5, 5, 5, 5, 5, 6, 6, 6, 6, 6, 6, 6, 6, 6, 6, 6, 6, 6, 6, 6, 6, 6, 6, 6, 6, 6, 6, 6, 6, 6, 6, 6, 6, 6, 6, 6, 6, 7, 7, 7, 7, 7, 7, 7, 7, 7, 7, 7, 7, 7, 7, 7, 7, 7, 7, 7, 7, 7, 7, 7, 7, 7, 7, 7, 7, 7, 7, 7, 7, 7, 7, 7, 7, 7, 7, 7, 7, 7, 7, 7, 7, 7, 7, 7, 7, 7, 7, 7, 7, 7, 7, 7, 7, 7, 7, 7, 7, 7, 7, 7, 7, 8, 8, 8, 8, 8, 8, 8, 8, 8, 8, 8, 8, 8, 8, 8, 8, 8, 8, 8, 8, 8, 8, 8, 8, 8, 8, 8, 8, 8, 8, 8, 8, 8, 8, 8, 8, 8, 8, 8, 8, 8, 8, 8, 8, 8, 8, 8, 8, 8, 8, 8, 8, 8, 8, 8, 8, 8, 8, 8, 8, 8, 8, 8, 8, 8, 8, 8, 8, 8, 8, 8, 8, 8, 8, 8, 8, 8, 8, 8, 8, 8, 8, 8, 8, 8, 8, 8, 8, 8, 8, 8, 8, 8, 8, 8, 8, 8, 8, 8, 8, 8, 8, 8, 8, 8, 8, 8, 8, 8, 8, 8, 8, 8, 8, 8, 8, 8, 8, 8, 8, 8, 8, 8, 8, 8, 8, 8, 8]⟩)) (.t 15)⟩,
 ⟨(some 17), none, .conv .i64 (.t 16)⟩,
 ⟨(some 18), none, .bin .add (.t 13) (.t 17)⟩,
 ⟨(some 2), none, .mov (.t 18)⟩] [] false)
.ret))))⟩
-- 242 math/bits.Len64
def n_math_bits_Len64 : Nat := 242
def af_math_bits_Len64 : AF := ⟨25, [.tmp 2],
(.seq
(.reg [⟨(some 2), none, .mov (.c (.int .i64 0))⟩] [] false)
(.seq
(.seq
(.reg [⟨(some 3), none, .mov (.t 0)⟩,
 ⟨(some 4), none, .bin .geq (.t 3) (.c (.int .u64 4294967296))⟩] [] false)
(.cond (.t 4)
 (.seq
 (.reg [⟨(some 5), none, .mov (.t 0)⟩,
  ⟨(some 6), none, .bin .shr (.t 5) (.c (.int .u64 32))⟩,
  ⟨(some 0), none, .mov (.t 6)⟩] [] false)
 (.reg [⟨(some 2), none, .mov (.c (.int .i64 32))⟩] [] false))
 .skip))
(.seq
(.seq
(.reg [⟨(some 7), none, .mov (.t 0)⟩,
 ⟨(some 8), none, .bin .geq (.t 7) (.c (.int .u64 65536))⟩] [] false)
(.cond (.t 8)
 (.seq
 (.reg [⟨(some 9), none, .mov (.t 0)⟩,
  ⟨(some 10), none, .bin .shr (.t 9) (.c (.int .u64 16))⟩,
  ⟨(some 0), none, .mov (.t 10)⟩] [] false)
 (.reg [⟨(some 11), none, .mov (.t 2)⟩,
  ⟨(some 12), none, .bin .add (.t 11) (.c (.int .i64 16))⟩,
  ⟨(some 2), none, .mov (.t 12)⟩] [] false))
 .skip))
(.seq
(.seq
(.reg [⟨(some 13), none, .mov (.t 0)⟩,
 ⟨(some 14), none, .bin .geq (.t 13) (.c (.int .u64 256))⟩] [] false)
(.cond (.t 14)
 (.seq
 (.reg [⟨(some 15), none, .mov (.t 0)⟩,
  ⟨(some 16), none, .bin .shr (.t 15) (.c (.int .u64 8))⟩,
  ⟨(some 0), none, .mov (.t 16)⟩] [] false)
 (.reg [⟨(some 17), none, .mov (.t 2)⟩,
  ⟨(some 18), none, .bin .add (.t 17) (.c (.int .i64 8))⟩,
  ⟨(some 2), none, .mov (.t 18)⟩] [] false))
 .skip))
(.seq
(.reg [⟨(some 19), none, .mov (.t 2)⟩,
 ⟨(some 20), none, .mov (.t 0)⟩,
 ⟨(some 21), none, .conv .u8 (.t 20)⟩,
 ⟨(some 22), none, .sidx (.c (.str ⟨#[0, 1, 2, 2, 3, 3, 3, 3, 4, 4, 4, 4, 4, 4, 4, 4, 5, 5, 5, 5, 5, 5, 5, 5, 5, 5, 5, 5, 5, 5, 5, 5, 6, 6, 6, 6, 6, 6, 6, 6, 6, 6, 6, 6, 6, 6, 6, 6, 6, 6, 6, 6, 6, 6, 6, 6, 6, 6, 6, 6, 6, 6, 6, 6, 7, 7, 7, 7, 7, 7, 7, 7, 7, 7, 7, 7, 7, 7, 7, 7, 7, 7, 7, 7, 7, 7, 7, 7, 7, 7, 7, 7, 7, 7, 7, 7, 7, 7, 7, 7, 7, 7, 7, 7, 7, 7, 7, 7, 7, 7, 7, 7, 7, 7, 7, 7, 7, 7, 7, 7, 7, 7, 7, 7, 7, 7, 7, 7, 8, 8, 8, 8, 8, 8, 8, 8, 8, 8, 8, 8, 8, 8, 8, 8, 8, 8, 8, 8, 8, 8, 8, 8, 8, 8, 8, 8, 8, 8, 8, 8, 8, 8, 8, 8, 8, 8, 8, 8, 8, 8, 8, 8, 8, 8, 8, 8, 8, 8, 8, 8, 8, 8, 8, 8, 8, 8, 8, 8, 8, 8, 8, 8, 8, 8, 8, 8, 8, 8, 8, 8, 8, 8, 8, 8, 8, 8, 8, 8, 8, 8, 8, 8, 8, 8, 8, 8, 8, 8, 8, 8, 8, 8, 8, 8, 8, 8, 8, 8, 8, 8, 8, 8, 8, 8, 8, 8, 8, 8, 8, 8, 8, 8, 8, 8, 8, 8, 8, 8, 8, 8, 8, 8, 8, 8, 8, 8]⟩)) (.t 21)⟩,
 ⟨(some 23), none, .conv .i64 (.t 22)⟩,
 ⟨(some 24), none, .bin .add (.t 19) (.t 23)⟩,
 ⟨(some 2), none, .mov (.t 24)⟩] [] false)
.ret)))))⟩
-- 244 (topiary/rank.Rank).One
def n_rank_Rank_One : Nat := 244
def af_rank_Rank_One : AF := ⟨9, [.tmp 4],
(.seq
(.reg [⟨(some 2), none, .box (.t 0)⟩,
 ⟨(some 4), none, .mov (.c (.int .i64 0))⟩] [] false)
(.seq
(.reg [⟨(some 5), none, .fad 0 (.t 2)⟩,
 ⟨(some 6), none, .load true 2 (.t 5)⟩,
 ⟨(some 7), none, .mov (.t 1)⟩,
 ⟨(some 8), none, .call (.c (.fn 134 [] [])) [(.t 6), (.t 7)]⟩,
 ⟨(some 4), none, .mov (.t 8)⟩] [] false)
.ret))⟩
-- 245 (topiary/bits.Bits).ahead
def n_bits_Bits_ahead : Nat := 245
def af_bits_Bits_ahead : AF := ⟨41, [.tmp 4],
(.seq
(.reg [⟨(some 2), none, .box (.t 0)⟩,
 ⟨(some 4), none, .mov (.c (.int .i64 0))⟩] [] false)
(.seq
(.reg [⟨(some 5), none, .alc (.int .i64 0)⟩,
 ⟨none, none, .store 1 (.t 5) (.c (.int .i64 0))⟩] [] false)
(.seq
(.reg [⟨(some 9), none, .mkf 283 [] [(.t 5)]⟩,
 ⟨(some 6), none, .mov (.t 9)⟩] [] false)
(.seq
(.seq
(.reg [⟨(some 10), none, .fad 1 (.t 2)⟩,
 ⟨(some 11), none, .load false 1 (.t 10)⟩,
 ⟨(some 12), none, .mov (.t 1)⟩,
 ⟨(some 13), none, .bin .quo (.t 12) (.c (.int .i64 64))⟩,
 ⟨(some 14), none, .slc 1 (.t 11) none (some (.t 13)) none⟩,
 ⟨(some 15), none, .len (.t 14)⟩,
 ⟨(some 16), none, .mov (.c (.int .i64 0))⟩] [] false)
(.block 0
 (.loop
  (.seq
  (.reg [⟨(some 17), none, .bin .lss (.t 16) (.t 15)⟩] [] false)
  (.seq
  (.cond (.t 17)
   .skip
   (.exit 0))
  (.seq
  (.block 1
   (.seq
   (.reg [⟨(some 18), none, .idx 1 (.t 14) (.t 16)⟩,
    ⟨(some 19), none, .load false 1 (.t 18)⟩,
    ⟨(some 8), none, .mov (.t 19)⟩] [] false)
   (.reg [⟨(some 20), none, .mov (.t 6)⟩,
    ⟨(some 21), none, .mov (.t 8)⟩,
    ⟨(some 22), none, .call (.t 20) [(.t 21)]⟩] [] false)))
  (.reg [⟨(some 23), none, .bin .add (.t 16) (.c (.int .i64 1))⟩,
   ⟨(some 16), none, .mov (.t 23)⟩] [] false)))))))
(.seq
(.seq
(.reg [⟨(some 24), none, .mov (.t 1)⟩,
 ⟨(some 25), none, .bin .rem (.t 24) (.c (.int .i64 64))⟩,
 ⟨(some 26), none, .bin .gtr (.t 25) (.c (.int .i64 0))⟩] [] false)
(.cond (.t 26)
 (.reg [⟨(some 27), none, .mov (.t 6)⟩,
  ⟨(some 28), none, .fad 1 (.t 2)⟩,
  ⟨(some 29), none, .load false 1 (.t 28)⟩,
  ⟨(some 30), none, .mov (.t 1)⟩,
  ⟨(some 31), none, .bin .quo (.t 30) (.c (.int .i64 64))⟩,
  ⟨(some 32), none, .idx 1 (.t 29) (.t 31)⟩,
  ⟨(some 33), none, .load false 1 (.t 32)⟩,
  ⟨(some 34), none, .mov (.t 1)⟩,
  ⟨(some 35), none, .bin .rem (.t 34) (.c (.int .i64 64))⟩,
  ⟨(some 36), none, .bin .shl (.c (.int .u64 1)) (.t 35)⟩,
  ⟨(some 37), none, .bin .sub (.t 36) (.c (.int .u64 1))⟩,
  ⟨(some 38), none, .bin .and (.t 33) (.t 37)⟩,
  ⟨(some 39), none, .call (.t 27) [(.t 38)]⟩] [] false)
 .skip))
(.seq
(.reg [⟨(some 40), none, .load false 1 (.t 5)⟩,
 ⟨(some 4), none, .mov (.t 40)⟩] [] false)
.ret))))))⟩
-- 246 slices.stableCmpFunc[int]
def n_slices_stableCmpFunc_int : Nat := 246
def af_slices_stableCmpFunc_int : AF := ⟨63, [],
(.seq
(.reg [⟨(some 6), none, .mov (.c (.int .i64 20))⟩] [] false)
(.seq
(.reg [⟨(some 10), none, .mov (.t 6)⟩,
 ⟨(some 7), none, .mov (.c (.int .i64 0))⟩,
 ⟨(some 8), none, .mov (.t 10)⟩] [] false)
(.seq
(.block 0
 (.loop
  (.seq
  (.seq
  (.reg [⟨(some 11), none, .mov (.t 8)⟩,
   ⟨(some 12), none, .mov (.t 1)⟩,
   ⟨(some 13), none, .bin .leq (.t 11) (.t 12)⟩] [] false)
  (.cond (.t 13)
   .skip
   (.exit 0)))
  (.block 1
   (.seq
   (.reg [⟨(some 14), none, .mov (.t 0)⟩,
    ⟨(some 15), none, .mov (.t 7)⟩,
    ⟨(some 16), none, .mov (.t 8)⟩,
    ⟨(some 17), none, .mov (.t 2)⟩,
    ⟨(some 18), none, .call (.c (.fn 285 [] [])) [(.t 14), (.t 15), (.t 16), (.t 17)]⟩] [] false)
   (.seq
   (.reg [⟨(some 19), none, .mov (.t 8)⟩,
    ⟨(some 7), none, .mov (.t 19)⟩] [] false)
   (.reg [⟨(some 20), none, .mov (.t 8)⟩,
    ⟨(some 21), none, .mov (.t 6)⟩,
    ⟨(some 22), none, .bin .add (.t 20) (.t 21)⟩,
    ⟨(some 8), none, .mov (.t 22)⟩] [] false)))))))
(.seq
(.reg [⟨(some 23), none, .mov (.t 0)⟩,
 ⟨(some 24), none, .mov (.t 7)⟩,
 ⟨(some 25), none, .mov (.t 1)⟩,
 ⟨(some 26), none, .mov (.t 2)⟩,
 ⟨(some 27), none, .call (.c (.fn 285 [] [])) [(.t 23), (.t 24), (.t 25), (.t 26)]⟩] [] false)
(.block 2
 (.loop
  (.seq
  (.seq
  (.reg [⟨(some 28), none, .mov (.t 6)⟩,
   ⟨(some 29), none, .mov (.t 1)⟩,
   ⟨(some 30), none, .bin .lss (.t 28) (.t 29)⟩] [] false)
  (.cond (.t 30)
   .skip
   (.exit 2)))
  (.block 3
   (.seq
   (.reg [⟨(some 31), none, .mov (.t 6)⟩,
    ⟨(some 32), none, .bin .mul (.c (.int .i64 2)) (.t 31)⟩,
    ⟨(some 7), none, .mov (.c (.int .i64 0))⟩,
    ⟨(some 8), none, .mov (.t 32)⟩] [] false)
   (.seq
   (.block 4
    (.loop
     (.seq
     (.seq
     (.reg [⟨(some 33), none, .mov (.t 8)⟩,
      ⟨(some 34), none, .mov (.t 1)⟩,
      ⟨(some 35), none, .bin .leq (.t 33) (.t 34)⟩] [] false)
     (.cond (.t 35)
      .skip
      (.exit 4)))
     (.block 5
      (.seq
      (.reg [⟨(some 36), none, .mov (.t 0)⟩,
       ⟨(some 37), none, .mov (.t 7)⟩,
       ⟨(some 38), none, .mov (.t 7)⟩,
       ⟨(some 39), none, .mov (.t 6)⟩,
       ⟨(some 40), none, .bin .add (.t 38) (.t 39)⟩,
       ⟨(some 41), none, .mov (.t 8)⟩,
       ⟨(some 42), none, .mov (.t 2)⟩,
       ⟨(some 43), none, .call (.c (.fn 286 [] [])) [(.t 36), (.t 37), (.t 40), (.t 41), (.t 42)]⟩] [] false)
      (.seq
      (.reg [⟨(some 44), none, .mov (.t 8)⟩,
       ⟨(some 7), none, .mov (.t 44)⟩] [] false)
      (.reg [⟨(some 45), none, .mov (.t 8)⟩,
       ⟨(some 46), none, .mov (.t 6)⟩,
       ⟨(some 47), none, .bin .mul (.c (.int .i64 2)) (.t 46)⟩,
       ⟨(some 48), none, .bin .add (.t 45) (.t 47)⟩,
       ⟨(some 8), none, .mov (.t 48)⟩] [] false)))))))
   (.seq
   (.seq
   (.reg [⟨(some 49), none, .mov (.t 7)⟩,
    ⟨(some 50), none, .mov (.t 6)⟩,
    ⟨(some 51), none, .bin .add (.t 49) (.t 50)⟩,
    ⟨(some 9), none, .mov (.t 51)⟩] [] false)
   (.seq
   (.reg [⟨(some 52), none, .mov (.t 9)⟩,
    ⟨(some 53), none, .mov (.t 1)⟩,
    ⟨(some 54), none, .bin .lss (.t 52) (.t 53)⟩] [] false)
   (.cond (.t 54)
    (.reg [⟨(some 55), none, .mov (.t 0)⟩,
     ⟨(some 56), none, .mov (.t 7)⟩,
     ⟨(some 57), none, .mov (.t 9)⟩,
     ⟨(some 58), none, .mov (.t 1)⟩,
     ⟨(some 59), none, .mov (.t 2)⟩,
     ⟨(some 60), none, .call (.c (.fn 286 [] [])) [(.t 55), (.t 56), (.t 57), (.t 58), (.t 59)]⟩] [] false)
    .skip)))
   (.reg [⟨(some 61), none, .mov (.t 6)⟩,
    ⟨(some 62), none, .bin .mul (.t 61) (.c (.int .i64 2))⟩,
    ⟨(some 6), none, .mov (.t 62)⟩] [] false))))))))))))⟩
-- 247 topiary/bits.fits
def n_bits_fits : Nat := 247
def af_bits_fits : AF := ⟨17, [.tmp 4],
(.seq
(.reg [⟨(some 4), none, .mov (.c (.bool false))⟩] [] false)
(.seq
(.reg [⟨(some 5), none, .mov (.t 1)⟩,
 ⟨(some 6), none, .bin .geq (.t 5) (.c (.int .i64 0))⟩,
 ⟨(some 7), none, .mov (.t 6)⟩,
 ⟨(some 8), (some (7, true)), .mov (.t 1)⟩,
 ⟨(some 9), (some (7, true)), .bin .leq (.t 8) (.c (.int .i64 64))⟩,
 ⟨(some 10), none, .pick (.t 7) (.t 9) (.c (.bool false))⟩,
 ⟨(some 11), none, .mov (.t 10)⟩,
 ⟨(some 12), (some (11, true)), .mov (.t 0)⟩,
 ⟨(some 13), (some (11, true)), .call (.c (.fn 242 [] [])) [(.t 12)]⟩,
 ⟨(some 14), (some (11, true)), .mov (.t 1)⟩,
 ⟨(some 15), (some (11, true)), .bin .leq (.t 13) (.t 14)⟩,
 ⟨(some 16), none, .pick (.t 11) (.t 15) (.c (.bool false))⟩,
 ⟨(some 4), none, .mov (.t 16)⟩] [] false)
.ret))⟩
-- 251 topiary/order.Pairs
def n_order_Pairs : Nat := 251
def af_order_Pairs : AF := ⟨85, [.tmp 4, .tmp 5],
(.seq
(.reg [⟨(some 4), none, .mov (.c (.sl true []))⟩,
 ⟨(some 5), none, .mov (.c (.int .i64 0))⟩] [] false)
(.seq
(.seq
(.reg [⟨(some 14), none, .mov (.t 0)⟩,
 ⟨(some 15), none, .len (.t 14)⟩,
 ⟨(some 16), none, .mov (.t 1)⟩,
 ⟨(some 17), none, .len (.t 16)⟩,
 ⟨(some 18), none, .bin .neq (.t 15) (.t 17)⟩] [] false)
(.cond (.t 18)
 (.seq
 (.reg [⟨(some 4), none, .mov (.c (.sl true []))⟩,
  ⟨(some 5), none, .mov (.c (.int .i64 1))⟩] [] false)
 .ret)
 .skip))
(.seq
(.reg [⟨(some 19), none, .mov (.t 0)⟩,
 ⟨(some 20), none, .call (.c (.fn 274 [] [])) [(.t 19)]⟩,
 ⟨(some 21), none, .mov (.t 1)⟩,
 ⟨(some 22), none, .call (.c (.fn 274 [] [])) [(.t 21)]⟩,
 ⟨(some 6), none, .mov (.t 20)⟩,
 ⟨(some 7), none, .mov (.t 22)⟩] [] false)
(.seq
(.reg [⟨(some 23), none, .mov (.t 0)⟩,
 ⟨(some 24), none, .len (.t 23)⟩,
 ⟨(some 25), none, .mx (.t 24) [(.c (.int .i64 1))]⟩,
 ⟨(some 8), none, .mov (.t 25)⟩] [] false)
(.seq
(.reg [⟨(some 26), none, .mov (.t 0)⟩,
 ⟨(some 27), none, .len (.t 26)⟩,
 ⟨(some 28), none, .call (.c (.fn 273 [] [])) [(.t 27)]⟩,
 ⟨(some 29), none, .mov (.t 7)⟩,
 ⟨(some 30), none, .mov (.t 8)⟩,
 ⟨(some 31), none, .call (.c (.fn 272 [] [])) [(.t 28), (.t 29), (.t 30)]⟩,
 ⟨(some 32), none, .mov (.t 6)⟩,
 ⟨(some 33), none, .mov (.t 8)⟩,
 ⟨(some 34), none, .call (.c (.fn 272 [] [])) [(.t 31), (.t 32), (.t 33)]⟩,
 ⟨(some 9), none, .mov (.t 34)⟩] [] false)
(.seq
(.reg [⟨(some 35), none, .mov (.t 0)⟩,
 ⟨(some 36), none, .len (.t 35)⟩,
 ⟨(some 37), none, .mks 3 1 8 (.int .i64 0) (.t 36)⟩,
 ⟨(some 10), none, .mov (.t 37)⟩] [] false)
(.seq
(.reg [⟨(some 11), none, .mov (.c (.int .i64 (-1)))⟩] [] false)
(.seq
(.seq
(.reg [⟨(some 38), none, .mov (.t 9)⟩,
 ⟨(some 39), none, .len (.t 38)⟩,
 ⟨(some 40), none, .mov (.c (.int .i64 0))⟩] [] false)
(.block 0
 (.loop
  (.seq
  (.reg [⟨(some 41), none, .bin .lss (.t 40) (.t 39)⟩] [] false)
  (.seq
  (.cond (.t 41)
   .skip
   (.exit 0))
  (.seq
  (.block 1
   (.seq
   (.reg [⟨(some 42), none, .mov (.t 40)⟩,
    ⟨(some 43), none, .idx 1 (.t 38) (.t 40)⟩,
    ⟨(some 44), none, .load false 1 (.t 43)⟩,
    ⟨(some 12), none, .mov (.t 42)⟩,
    ⟨(some 13), none, .mov (.t 44)⟩] [] false)
   (.seq
   (.seq
   (.reg [⟨(some 45), none, .mov (.t 12)⟩,
    ⟨(some 46), none, .bin .eql (.t 45) (.c (.int .i64 0))⟩,
    ⟨(some 47), none, .mov (.t 46)⟩,
    ⟨(some 48), (some (47, false)), .mov (.t 6)⟩,
    ⟨(some 49), (some (47, false)), .mov (.t 13)⟩,
    ⟨(some 50), (some (47, false)), .idx 1 (.t 48) (.t 49)⟩,
    ⟨(some 51), (some (47, false)), .load false 1 (.t 50)⟩,
    ⟨(some 52), (some (47, false)), .mov (.t 6)⟩,
    ⟨(some 53), (some (47, false)), .mov (.t 9)⟩,
    ⟨(some 54), (some (47, false)), .mov (.t 12)⟩,
    ⟨(some 55), (some (47, false)), .bin .sub (.t 54) (.c (.int .i64 1))⟩,
    ⟨(some 56), (some (47, false)), .idx 1 (.t 53) (.t 55)⟩,
    ⟨(some 57), (some (47, false)), .load false 1 (.t 56)⟩,
    ⟨(some 58), (some (47, false)), .idx 1 (.t 52) (.t 57)⟩,
    ⟨(some 59), (some (47, false)), .load false 1 (.t 58)⟩,
    ⟨(some 60), (some (47, false)), .bin .neq (.t 51) (.t 59)⟩,
    ⟨(some 61), none, .pick (.t 47) (.c (.bool true)) (.t 60)⟩,
    ⟨(some 62), none, .mov (.t 61)⟩,
    ⟨(some 63), (some (62, false)), .mov (.t 7)⟩,
    ⟨(some 64), (some (62, false)), .mov (.t 13)⟩,
    ⟨(some 65), (some (62, false)), .idx 1 (.t 63) (.t 64)⟩,
    ⟨(some 66), (some (62, false)), .load false 1 (.t 65)⟩,
    ⟨(some 67), (some (62, false)), .mov (.t 7)⟩,
    ⟨(some 68), (some (62, false)), .mov (.t 9)⟩,
    ⟨(some 69), (some (62, false)), .mov (.t 12)⟩,
    ⟨(some 70), (some (62, false)), .bin .sub (.t 69) (.c (.int .i64 1))⟩,
    ⟨(some 71), (some (62, false)), .idx 1 (.t 68) (.t 70)⟩,
    ⟨(some 72), (some (62, false)), .load false 1 (.t 71)⟩,
    ⟨(some 73), (some (62, false)), .idx 1 (.t 67) (.t 72)⟩,
    ⟨(some 74), (some (62, false)), .load false 1 (.t 73)⟩,
    ⟨(some 75), (some (62, false)), .bin .neq (.t 66) (.t 74)⟩,
    ⟨(some 76), none, .pick (.t 62) (.c (.bool true)) (.t 75)⟩] [] false)
   (.cond (.t 76)
    (.reg [⟨(some 77), none, .mov (.t 11)⟩,
     ⟨(some 78), none, .bin .add (.t 77) (.c (.int .i64 1))⟩,
     ⟨(some 11), none, .mov (.t 78)⟩] [] false)
    .skip))
   (.reg [⟨(some 79), none, .mov (.t 10)⟩,
    ⟨(some 80), none, .mov (.t 13)⟩,
    ⟨(some 81), none, .mov (.t 11)⟩,
    ⟨(some 82), none, .idx 1 (.t 79) (.t 80)⟩,
    ⟨none, none, .store 1 (.t 82) (.t 81)⟩] [] false))))
  (.reg [⟨(some 83), none, .bin .add (.t 40) (.c (.int .i64 1))⟩,
   ⟨(some 40), none, .mov (.t 83)⟩] [] false)))))))
(.seq
(.reg [⟨(some 84), none, .mov (.t 10)⟩,
 ⟨(some 4), none, .mov (.t 84)⟩,
 ⟨(some 5), none, .mov (.c (.int .i64 0))⟩] [] false)
.ret)))))))))⟩
-- 257 slices.Backward[[]topiary/rank.Rank,topiary/rank.Rank]$1
def n_slices_Backward_Rank_1 : Nat := 257
def af_slices_Backward_Rank_1 : AF := ⟨19, [],
(.seq
(.reg [⟨(some 4), none, .load false 1 (.t 1)⟩,
 ⟨(some 5), none, .len (.t 4)⟩,
 ⟨(some 6), none, .bin .sub (.t 5) (.c (.int .i64 1))⟩,
 ⟨(some 3), none, .mov (.t 6)⟩] [] false)
(.block 0
 (.loop
  (.seq
  (.seq
  (.reg [⟨(some 7), none, .mov (.t 3)⟩,
   ⟨(some 8), none, .bin .geq (.t 7) (.c (.int .i64 0))⟩] [] false)
  (.cond (.t 8)
   .skip
   (.exit 0)))
  (.seq
  (.block 1
   (.seq
   (.reg [⟨(some 11), none, .mov (.t 0)⟩,
    ⟨(some 12), none, .mov (.t 3)⟩,
    ⟨(some 13), none, .load false 1 (.t 1)⟩,
    ⟨(some 14), none, .mov (.t 3)⟩,
    ⟨(some 15), none, .idx 7 (.t 13) (.t 14)⟩,
    ⟨(some 16), none, .load true 7 (.t 15)⟩,
    ⟨(some 17), none, .call (.t 11) [(.t 12), (.t 16)]⟩,
    ⟨(some 18), none, .un .not (.t 17)⟩] [] false)
   (.cond (.t 18)
    .ret
    .skip)))
  (.reg [⟨(some 9), none, .mov (.t 3)⟩,
   ⟨(some 10), none, .bin .sub (.t 9) (.c (.int .i64 1))⟩,
   ⟨(some 3), none, .mov (.t 10)⟩] [] false))))))⟩
-- 258 (topiary/rank.Rank).Select0$1
def n_rank_Rank_Select0_1 : Nat := 258
def af_rank_Rank_Select0_1 : AF := ⟨7, [.tmp 3],
(.seq
(.reg [⟨(some 3), none, .mov (.c (.int .i64 0))⟩] [] false)
(.seq
(.reg [⟨(some 4), none, .load true 7 (.t 1)⟩,
 ⟨(some 5), none, .mov (.t 0)⟩,
 ⟨(some 6), none, .call (.c (.fn 203 [] [])) [(.t 4), (.t 5)]⟩,
 ⟨(some 3), none, .mov (.t 6)⟩] [] false)
.ret))⟩
-- 259 topiary/order.side
def n_order_side : Nat := 259
def af_order_side : AF := ⟨69, [],
(.scope
 (.seq
 .skip
 (.block 0
  (.loop
   (.block 1
    (.block 2
     (.seq
     (.reg [⟨(some 16), none, .mov (.t 0)⟩,
      ⟨(some 17), none, .len (.t 16)⟩,
      ⟨(some 18), none, .bin .eql (.t 17) (.c (.int .i64 0))⟩,
      ⟨(some 19), none, .mov (.t 18)⟩,
      ⟨(some 20), (some (19, true)), .mov (.t 1)⟩,
      ⟨(some 21), (some (19, true)), .len (.t 20)⟩,
      ⟨(some 22), (some (19, true)), .bin .eql (.t 21) (.c (.int .i64 0))⟩,
      ⟨(some 23), none, .pick (.t 19) (.t 22) (.c (.bool false))⟩,
      ⟨(some 15), none, .mov (.t 23)⟩] [] false)
     (.cond (.t 15)
      (.exit 0)
      (.seq
      (.reg [⟨(some 25), none, .mov (.t 1)⟩,
       ⟨(some 26), none, .len (.t 25)⟩,
       ⟨(some 27), none, .bin .eql (.t 26) (.c (.int .i64 0))⟩,
       ⟨(some 28), none, .mov (.t 27)⟩,
       ⟨(some 29), (some (28, false)), .mov (.t 0)⟩,
       ⟨(some 30), (some (28, false)), .len (.t 29)⟩,
       ⟨(some 31), (some (28, false)), .bin .gtr (.t 30) (.c (.int .i64 0))⟩,
       ⟨(some 32), (some (28, false)), .mov (.t 31)⟩,
       ⟨(some 33), (some (32, true)), .mov (.t 0)⟩,
       ⟨(some 34), (some (32, true)), .idx 1 (.t 33) (.c (.int .i64 0))⟩,
       ⟨(some 35), (some (32, true)), .load false 1 (.t 34)⟩,
       ⟨(some 36), (some (32, true)), .mov (.t 1)⟩,
       ⟨(some 37), (some (32, true)), .idx 1 (.t 36) (.c (.int .i64 0))⟩,
       ⟨(some 38), (some (32, true)), .load false 1 (.t 37)⟩,
       ⟨(some 39), (some (32, true)), .bin .lss (.t 35) (.t 38)⟩,
       ⟨(some 40), (some (28, false)), .pick (.t 32) (.t 39) (.c (.bool false))⟩,
       ⟨(some 41), none, .pick (.t 28) (.c (.bool true)) (.t 40)⟩,
       ⟨(some 24), none, .mov (.t 41)⟩] [] false)
      (.cond (.t 24)
       (.seq
       (.reg [⟨(some 42), none, .mov (.t 2)⟩,
        ⟨(some 43), none, .mov (.t 0)⟩,
        ⟨(some 44), none, .idx 1 (.t 43) (.c (.int .i64 0))⟩,
        ⟨(some 45), none, .load false 1 (.t 44)⟩,
        ⟨(some 46), none, .call (.t 42) [(.t 45), (.c (.bool true)), (.c (.bool false))]⟩] [] false)
       (.reg [⟨(some 47), none, .mov (.t 0)⟩,
        ⟨(some 48), none, .slc 1 (.t 47) (some (.c (.int .i64 1))) none none⟩,
        ⟨(some 0), none, .mov (.t 48)⟩] [] false))
       (.seq
       (.reg [⟨(some 50), none, .mov (.t 0)⟩,
        ⟨(some 51), none, .len (.t 50)⟩,
        ⟨(some 52), none, .bin .eql (.t 51) (.c (.int .i64 0))⟩,
        ⟨(some 53), none, .mov (.t 52)⟩,
        ⟨(some 54), (some (53, false)), .mov (.t 1)⟩,
        ⟨(some 55), (some (53, false)), .idx 1 (.t 54) (.c (.int .i64 0))⟩,
        ⟨(some 56), (some (53, false)), .load false 1 (.t 55)⟩,
        ⟨(some 57), (some (53, false)), .mov (.t 0)⟩,
        ⟨(some 58), (some (53, false)), .idx 1 (.t 57) (.c (.int .i64 0))⟩,
        ⟨(some 59), (some (53, false)), .load false 1 (.t 58)⟩,
        ⟨(some 60), (some (53, false)), .bin .lss (.t 56) (.t 59)⟩,
        ⟨(some 61), none, .pick (.t 53) (.c (.bool true)) (.t 60)⟩,
        ⟨(some 49), none, .mov (.t 61)⟩] [] false)
       (.cond (.t 49)
        (.seq
        (.reg [⟨(some 62), none, .mov (.t 2)⟩,
         ⟨(some 63), none, .mov (.t 1)⟩,
         ⟨(some 64), none, .idx 1 (.t 63) (.c (.int .i64 0))⟩,
         ⟨(some 65), none, .load false 1 (.t 64)⟩,
         ⟨(some 66), none, .call (.t 62) [(.t 65), (.c (.bool false)), (.c (.bool true))]⟩] [] false)
        (.reg [⟨(some 67), none, .mov (.t 1)⟩,
         ⟨(some 68), none, .slc 1 (.t 67) (some (.c (.int .i64 1))) none none⟩,
         ⟨(some 1), none, .mov (.t 68)⟩] [] false))
        (.seq
        (.reg [⟨(some 6), none, .mov (.t 2)⟩,
         ⟨(some 7), none, .mov (.t 0)⟩,
         ⟨(some 8), none, .idx 1 (.t 7) (.c (.int .i64 0))⟩,
         ⟨(some 9), none, .load false 1 (.t 8)⟩,
         ⟨(some 10), none, .call (.t 6) [(.t 9), (.c (.bool true)), (.c (.bool true))]⟩] [] false)
        (.reg [⟨(some 11), none, .mov (.t 0)⟩,
         ⟨(some 12), none, .slc 1 (.t 11) (some (.c (.int .i64 1))) none none⟩,
         ⟨(some 13), none, .mov (.t 1)⟩,
         ⟨(some 14), none, .slc 1 (.t 13) (some (.c (.int .i64 1))) none none⟩,
         ⟨(some 0), none, .mov (.t 12)⟩,
         ⟨(some 1), none, .mov (.t 14)⟩] [] false))))))))))))))⟩
-- 260 topiary/order.picked$1
def n_order_picked_1 : Nat := 260
def af_order_picked_1 : AF := ⟨16, [],
(.seq
(.reg [⟨(some 8), none, .load false 1 (.t 3)⟩,
 ⟨(some 9), none, .mov (.t 1)⟩,
 ⟨(some 10), none, .mov (.t 2)⟩,
 ⟨(some 11), none, .call (.t 8) [(.t 9), (.t 10)]⟩] [] false)
(.cond (.t 11)
 (.reg [⟨(some 12), none, .load false 1 (.t 4)⟩,
  ⟨(some 13), none, .mov (.t 0)⟩,
  ⟨(some 14), none, .bsl 3 1 [(.t 13)]⟩,
  ⟨(some 15), none, .app 3 1 8 (.t 12) (.t 14)⟩,
  ⟨none, none, .store 1 (.t 4) (.t 15)⟩] [] false)
 .skip))⟩
-- 266 topiary/topiaryref11.Encode
def n_ref11_Encode : Nat := 266
def af_ref11_Encode : AF := ⟨63, [.tmp 2],
(.seq
(.reg [⟨(some 2), none, .mov (.c (.str ⟨#[]⟩))⟩] [] false)
(.seq
(.reg [⟨(some 4), none, .mov (.t 0)⟩,
 ⟨(some 5), none, .call (.c (.fn 295 [] [])) [(.t 4)]⟩,
 ⟨(some 3), none, .mov (.t 5)⟩] [] false)
(.seq
(.seq
(.reg [⟨(some 6), none, .mov (.t 3)⟩,
 ⟨(some 7), none, .un .not (.t 6)⟩] [] false)
(.cond (.t 7)
 (.seq
 (.reg [⟨(some 2), none, .mov (.c (.str ⟨#[]⟩))⟩] [] false)
 .ret)
 .skip))
(.seq
(.seq
(.reg [⟨(some 8), none, .mov (.t 0)⟩,
 ⟨(some 9), none, .bin .leq (.t 8) (.c (.int .i64 127))⟩] [] false)
(.cond (.t 9)
 (.seq
 (.reg [⟨(some 10), none, .mov (.t 0)⟩,
  ⟨(some 11), none, .conv .u8 (.t 10)⟩,
  ⟨(some 12), none, .bsl 5 1 [(.t 11)]⟩,
  ⟨(some 13), none, .b2s (.t 12)⟩,
  ⟨(some 2), none, .mov (.t 13)⟩] [] false)
 .ret)
 .skip))
(.seq
(.seq
(.reg [⟨(some 14), none, .mov (.t 0)⟩,
 ⟨(some 15), none, .bin .leq (.t 14) (.c (.int .i64 2047))⟩] [] false)
(.cond (.t 15)
 (.seq
 (.reg [⟨(some 16), none, .mov (.t 0)⟩,
  ⟨(some 17), none, .bin .quo (.t 16) (.c (.int .i64 64))⟩,
  ⟨(some 18), none, .bin .add (.c (.int .i64 192)) (.t 17)⟩,
  ⟨(some 19), none, .conv .u8 (.t 18)⟩,
  ⟨(some 20), none, .mov (.t 0)⟩,
  ⟨(some 21), none, .bin .rem (.t 20) (.c (.int .i64 64))⟩,
  ⟨(some 22), none, .bin .add (.c (.int .i64 128)) (.t 21)⟩,
  ⟨(some 23), none, .conv .u8 (.t 22)⟩,
  ⟨(some 24), none, .bsl 5 1 [(.t 19), (.t 23)]⟩,
  ⟨(some 25), none, .b2s (.t 24)⟩,
  ⟨(some 2), none, .mov (.t 25)⟩] [] false)
 .ret)
 .skip))
(.seq
(.seq
(.reg [⟨(some 26), none, .mov (.t 0)⟩,
 ⟨(some 27), none, .bin .leq (.t 26) (.c (.int .i64 65535))⟩] [] false)
(.cond (.t 27)
 (.seq
 (.reg [⟨(some 28), none, .mov (.t 0)⟩,
  ⟨(some 29), none, .bin .quo (.t 28) (.c (.int .i64 4096))⟩,
  ⟨(some 30), none, .bin .add (.c (.int .i64 224)) (.t 29)⟩,
  ⟨(some 31), none, .conv .u8 (.t 30)⟩,
  ⟨(some 32), none, .mov (.t 0)⟩,
  ⟨(some 33), none, .bin .rem (.t 32) (.c (.int .i64 4096))⟩,
  ⟨(some 34), none, .bin .quo (.t 33) (.c (.int .i64 64))⟩,
  ⟨(some 35), none, .bin .add (.c (.int .i64 128)) (.t 34)⟩,
  ⟨(some 36), none, .conv .u8 (.t 35)⟩,
  ⟨(some 37), none, .mov (.t 0)⟩,
  ⟨(some 38), none, .bin .rem (.t 37) (.c (.int .i64 64))⟩,
  ⟨(some 39), none, .bin .add (.c (.int .i64 128)) (.t 38)⟩,
  ⟨(some 40), none, .conv .u8 (.t 39)⟩,
  ⟨(some 41), none, .bsl 5 1 [(.t 31), (.t 36), (.t 40)]⟩,
  ⟨(some 42), none, .b2s (.t 41)⟩,
  ⟨(some 2), none, .mov (.t 42)⟩] [] false)
 .ret)
 .skip))
(.seq
(.reg [⟨(some 43), none, .mov (.t 0)⟩,
 ⟨(some 44), none, .bin .quo (.t 43) (.c (.int .i64 262144))⟩,
 ⟨(some 45), none, .bin .add (.c (.int .i64 240)) (.t 44)⟩,
 ⟨(some 46), none, .conv .u8 (.t 45)⟩,
 ⟨(some 47), none, .mov (.t 0)⟩,
 ⟨(some 48), none, .bin .rem (.t 47) (.c (.int .i64 262144))⟩,
 ⟨(some 49), none, .bin .quo (.t 48) (.c (.int .i64 4096))⟩,
 ⟨(some 50), none, .bin .add (.c (.int .i64 128)) (.t 49)⟩,
 ⟨(some 51), none, .conv .u8 (.t 50)⟩,
 ⟨(some 52), none, .mov (.t 0)⟩,
 ⟨(some 53), none, .bin .rem (.t 52) (.c (.int .i64 4096))⟩,
 ⟨(some 54), none, .bin .quo (.t 53) (.c (.int .i64 64))⟩,
 ⟨(some 55), none, .bin .add (.c (.int .i64 128)) (.t 54)⟩,
 ⟨(some 56), none, .conv .u8 (.t 55)⟩,
 ⟨(some 57), none, .mov (.t 0)⟩,
 ⟨(some 58), none, .bin .rem (.t 57) (.c (.int .i64 64))⟩,
 ⟨(some 59), none, .bin .add (.c (.int .i64 128)) (.t 58)⟩,
 ⟨(some 60), none, .conv .u8 (.t 59)⟩,
 ⟨(some 61), none, .bsl 5 1 [(.t 46), (.t 51), (.t 56), (.t 60)]⟩,
 ⟨(some 62), none, .b2s (.t 61)⟩,
 ⟨(some 2), none, .mov (.t 62)⟩] [] false)
.ret)))))))⟩
-- 267 topiary/topiaryref12.attr
def n_ref12_attr : Nat := 267
def af_ref12_attr : AF := ⟨88, [.cell 4 true 5, .tmp 5],
(.seq
(.reg [⟨(some 4), none, .alc (.agg [(.int .i64 0), (.int .i64 0), (.int .i64 0), (.str ⟨#[]⟩), (.str ⟨#[]⟩)])⟩,
 ⟨(some 5), none, .mov (.c (.bool false))⟩] [] false)
(.seq
(.reg [⟨(some 14), none, .mov (.t 0)⟩,
 ⟨(some 15), none, .mov (.t 1)⟩,
 ⟨(some 16), none, .call (.c (.fn 157 [] [])) [(.t 14), (.t 15)]⟩,
 ⟨(some 6), none, .mov (.t 16)⟩] [] false)
(.seq
(.reg [⟨(some 17), none, .mov (.t 0)⟩,
 ⟨(some 18), none, .mov (.t 6)⟩,
 ⟨(some 19), none, .call (.c (.fn 225 [] [])) [(.t 17), (.t 18)]⟩,
 ⟨(some 7), none, .mov (.t 19)⟩] [] false)
(.seq
(.seq
(.reg [⟨(some 20), none, .mov (.t 6)⟩,
 ⟨(some 21), none, .mov (.t 1)⟩,
 ⟨(some 22), none, .bin .eql (.t 20) (.t 21)⟩,
 ⟨(some 23), none, .mov (.t 22)⟩,
 ⟨(some 24), (some (23, false)), .mov (.t 7)⟩,
 ⟨(some 25), (some (23, false)), .mov (.t 6)⟩,
 ⟨(some 26), (some (23, false)), .bin .eql (.t 24) (.t 25)⟩,
 ⟨(some 27), none, .pick (.t 23) (.c (.bool true)) (.t 26)⟩] [] false)
(.cond (.t 27)
 (.seq
 (.reg [⟨(some 28), none, .build [(.int .i64 0), (.int .i64 0), (.int .i64 0), (.str ⟨#[]⟩), (.str ⟨#[]⟩)] []⟩,
  ⟨none, none, .store 5 (.t 4) (.t 28)⟩,
  ⟨(some 5), none, .mov (.c (.bool false))⟩] [] false)
 .ret)
 .skip))
(.seq
(.reg [⟨(some 29), none, .mov (.t 0)⟩,
 ⟨(some 30), none, .mov (.t 7)⟩,
 ⟨(some 31), none, .call (.c (.fn 157 [] [])) [(.t 29), (.t 30)]⟩,
 ⟨(some 8), none, .mov (.t 31)⟩] [] false)
(.seq
(.seq
(.reg [⟨(some 32), none, .mov (.t 0)⟩,
 ⟨(some 33), none, .mov (.t 8)⟩,
 ⟨(some 34), none, .call (.c (.fn 223 [] [])) [(.t 32), (.t 33), (.c (.str ⟨#[61]⟩))]⟩,
 ⟨(some 35), none, .un .not (.t 34)⟩] [] false)
(.cond (.t 35)
 (.seq
 (.reg [⟨(some 36), none, .build [(.int .i64 0), (.int .i64 0), (.int .i64 0), (.str ⟨#[]⟩), (.str ⟨#[]⟩)] []⟩,
  ⟨none, none, .store 5 (.t 4) (.t 36)⟩,
  ⟨(some 5), none, .mov (.c (.bool false))⟩] [] false)
 .ret)
 .skip))
(.seq
(.reg [⟨(some 37), none, .mov (.t 0)⟩,
 ⟨(some 38), none, .mov (.t 8)⟩,
 ⟨(some 39), none, .bin .add (.t 38) (.c (.int .i64 1))⟩,
 ⟨(some 40), none, .call (.c (.fn 157 [] [])) [(.t 37), (.t 39)]⟩,
 ⟨(some 9), none, .mov (.t 40)⟩] [] false)
(.seq
(.seq
(.reg [⟨(some 41), none, .mov (.t 0)⟩,
 ⟨(some 42), none, .mov (.t 9)⟩,
 ⟨(some 43), none, .call (.c (.fn 223 [] [])) [(.t 41), (.t 42), (.c (.str ⟨#[34]⟩))]⟩,
 ⟨(some 44), none, .un .not (.t 43)⟩,
 ⟨(some 45), none, .mov (.t 44)⟩,
 ⟨(some 46), (some (45, true)), .mov (.t 0)⟩,
 ⟨(some 47), (some (45, true)), .mov (.t 9)⟩,
 ⟨(some 48), (some (45, true)), .call (.c (.fn 223 [] [])) [(.t 46), (.t 47), (.c (.str ⟨#[39]⟩))]⟩,
 ⟨(some 49), (some (45, true)), .un .not (.t 48)⟩,
 ⟨(some 50), none, .pick (.t 45) (.t 49) (.c (.bool false))⟩] [] false)
(.cond (.t 50)
 (.seq
 (.reg [⟨(some 51), none, .build [(.int .i64 0), (.int .i64 0), (.int .i64 0), (.str ⟨#[]⟩), (.str ⟨#[]⟩)] []⟩,
  ⟨none, none, .store 5 (.t 4) (.t 51)⟩,
  ⟨(some 5), none, .mov (.c (.bool false))⟩] [] false)
 .ret)
 .skip))
(.seq
(.reg [⟨(some 52), none, .mov (.t 0)⟩,
 ⟨(some 53), none, .mov (.t 9)⟩,
 ⟨(some 54), none, .bin .add (.t 53) (.c (.int .i64 1))⟩,
 ⟨(some 55), none, .mov (.t 0)⟩,
 ⟨(some 56), none, .mov (.t 9)⟩,
 ⟨(some 57), none, .mov (.t 9)⟩,
 ⟨(some 58), none, .bin .add (.t 57) (.c (.int .i64 1))⟩,
 ⟨(some 59), none, .slc 0 (.t 55) (some (.t 56)) (some (.t 58)) none⟩,
 ⟨(some 60), none, .call (.c (.fn 224 [] [])) [(.t 52), (.t 54), (.t 59)]⟩,
 ⟨(some 10), none, .mov (.t 60)⟩] [] false)
(.seq
(.seq
(.reg [⟨(some 61), none, .mov (.t 10)⟩,
 ⟨(some 62), none, .bin .lss (.t 61) (.c (.int .i64 0))⟩] [] false)
(.cond (.t 62)
 (.seq
 (.reg [⟨(some 63), none, .build [(.int .i64 0), (.int .i64 0), (.int .i64 0), (.str ⟨#[]⟩), (.str ⟨#[]⟩)] []⟩,
  ⟨none, none, .store 5 (.t 4) (.t 63)⟩,
  ⟨(some 5), none, .mov (.c (.bool false))⟩] [] false)
 .ret)
 .skip))
(.seq
(.reg [⟨(some 64), none, .mov (.t 0)⟩,
 ⟨(some 65), none, .mov (.t 9)⟩,
 ⟨(some 66), none, .bin .add (.t 65) (.c (.int .i64 1))⟩,
 ⟨(some 67), none, .mov (.t 10)⟩,
 ⟨(some 68), none, .slc 0 (.t 64) (some (.t 66)) (some (.t 67)) none⟩,
 ⟨(some 11), none, .mov (.t 68)⟩] [] false)
(.seq
(.seq
(.reg [⟨(some 69), none, .mov (.t 11)⟩,
 ⟨(some 70), none, .call (.c (.fn 224 [] [])) [(.t 69), (.c (.int .i64 0)), (.c (.str ⟨#[60]⟩))]⟩,
 ⟨(some 71), none, .bin .geq (.t 70) (.c (.int .i64 0))⟩] [] false)
(.cond (.t 71)
 (.seq
 (.reg [⟨(some 72), none, .build [(.int .i64 0), (.int .i64 0), (.int .i64 0), (.str ⟨#[]⟩), (.str ⟨#[]⟩)] []⟩,
  ⟨none, none, .store 5 (.t 4) (.t 72)⟩,
  ⟨(some 5), none, .mov (.c (.bool false))⟩] [] false)
 .ret)
 .skip))
(.seq
(.reg [⟨(some 74), none, .mov (.t 11)⟩,
 ⟨(some 75), none, .call (.c (.fn 227 [] [])) [(.t 74)]⟩,
 ⟨(some 73), none, .mov (.t 75)⟩,
 ⟨(some 76), none, .ext (.t 73) 0⟩,
 ⟨(some 77), none, .ext (.t 73) 1⟩,
 ⟨(some 12), none, .mov (.t 76)⟩,
 ⟨(some 13), none, .mov (.t 77)⟩] [] false)
(.seq
(.reg [⟨(some 78), none, .mov (.t 6)⟩,
 ⟨(some 79), none, .mov (.t 10)⟩,
 ⟨(some 80), none, .bin .add (.t 79) (.c (.int .i64 1))⟩,
 ⟨(some 81), none, .mov (.t 0)⟩,
 ⟨(some 82), none, .mov (.t 6)⟩,
 ⟨(some 83), none, .mov (.t 7)⟩,
 ⟨(some 84), none, .slc 0 (.t 81) (some (.t 82)) (some (.t 83)) none⟩,
 ⟨(some 85), none, .mov (.t 12)⟩,
 ⟨(some 86), none, .build [(.int .i64 0), (.int .i64 0), (.int .i64 0), (.str ⟨#[]⟩), (.str ⟨#[]⟩)] [(0, 1, (.c (.int .i64 2))), (1, 1, (.t 78)), (2, 1, (.t 80)), (3, 1, (.t 84)), (4, 1, (.t 85))]⟩,
 ⟨(some 87), none, .mov (.t 13)⟩,
 ⟨none, none, .store 5 (.t 4) (.t 86)⟩,
 ⟨(some 5), none, .mov (.t 87)⟩] [] false)
.ret))))))))))))))⟩
-- 268 topiary/topiaryref11.Entity
def n_ref11_Entity : Nat := 268
def af_ref11_Entity : AF := ⟨81, [.tmp 4, .tmp 5],
(.seq
(.reg [⟨(some 4), none, .mov (.c (.str ⟨#[]⟩))⟩,
 ⟨(some 5), none, .mov (.c (.int .i64 0))⟩] [] false)
(.seq
(.reg [⟨(some 17), none, .build [(.str ⟨#[]⟩), (.str ⟨#[]⟩), (.str ⟨#[]⟩), (.str ⟨#[]⟩), (.str ⟨#[]⟩)] [(0, 1, (.c (.str ⟨#[38, 108, 116, 59]⟩))), (1, 1, (.c (.str ⟨#[38, 103, 116, 59]⟩))), (2, 1, (.c (.str ⟨#[38, 97, 109, 112, 59]⟩))), (3, 1, (.c (.str ⟨#[38, 113, 117, 111, 116, 59]⟩))), (4, 1, (.c (.str ⟨#[38, 97, 112, 111, 115, 59]⟩)))]⟩,
 ⟨(some 6), none, .alc (.agg [(.str ⟨#[]⟩), (.str ⟨#[]⟩), (.str ⟨#[]⟩), (.str ⟨#[]⟩), (.str ⟨#[]⟩)])⟩,
 ⟨none, none, .store 5 (.t 6) (.t 17)⟩] [] false)
(.seq
(.reg [⟨(some 18), none, .build [(.str ⟨#[]⟩), (.str ⟨#[]⟩), (.str ⟨#[]⟩), (.str ⟨#[]⟩), (.str ⟨#[]⟩)] [(0, 1, (.c (.str ⟨#[60]⟩))), (1, 1, (.c (.str ⟨#[62]⟩))), (2, 1, (.c (.str ⟨#[38]⟩))), (3, 1, (.c (.str ⟨#[34]⟩))), (4, 1, (.c (.str ⟨#[39]⟩)))]⟩,
 ⟨(some 7), none, .alc (.agg [(.str ⟨#[]⟩), (.str ⟨#[]⟩), (.str ⟨#[]⟩), (.str ⟨#[]⟩), (.str ⟨#[]⟩)])⟩,
 ⟨none, none, .store 5 (.t 7) (.t 18)⟩] [] false)
(.seq
(.seq
(.reg [⟨(some 8), none, .mov (.c (.int .i64 0))⟩] [] false)
(.block 0
 (.loop
  (.seq
  (.seq
  (.reg [⟨(some 19), none, .mov (.t 8)⟩,
   ⟨(some 20), none, .bin .lss (.t 19) (.c (.int .i64 5))⟩] [] false)
  (.cond (.t 20)
   .skip
   (.exit 0)))
  (.seq
  (.block 1
   (.seq
   (.reg [⟨(some 23), none, .mov (.t 0)⟩,
    ⟨(some 24), none, .mov (.t 1)⟩,
    ⟨(some 25), none, .mov (.t 8)⟩,
    ⟨(some 26), none, .idxa 5 1 (.t 6) (.t 25)⟩,
    ⟨(some 27), none, .load false 1 (.t 26)⟩,
    ⟨(some 28), none, .call (.c (.fn 296 [] [])) [(.t 23), (.t 24), (.t 27)]⟩,
    ⟨(some 9), none, .mov (.t 28)⟩] [] false)
   (.seq
   (.reg [⟨(some 29), none, .mov (.t 9)⟩] [] false)
   (.cond (.t 29)
    (.seq
    (.reg [⟨(some 30), none, .mov (.t 8)⟩,
     ⟨(some 31), none, .idxa 5 1 (.t 7) (.t 30)⟩,
     ⟨(some 32), none, .load false 1 (.t 31)⟩,
     ⟨(some 33), none, .mov (.t 8)⟩,
     ⟨(some 34), none, .idxa 5 1 (.t 6) (.t 33)⟩,
     ⟨(some 35), none, .load false 1 (.t 34)⟩,
     ⟨(some 36), none, .slen (.t 35)⟩,
     ⟨(some 4), none, .mov (.t 32)⟩,
     ⟨(some 5), none, .mov (.t 36)⟩] [] false)
    .ret)
    .skip))))
  (.reg [⟨(some 21), none, .mov (.t 8)⟩,
   ⟨(some 22), none, .bin .add (.t 21) (.c (.int .i64 1))⟩,
   ⟨(some 8), none, .mov (.t 22)⟩] [] false))))))
(.seq
(.reg [⟨(some 37), none, .build [(.str ⟨#[]⟩), (.str ⟨#[]⟩)] [(0, 1, (.c (.str ⟨#[38, 35, 120]⟩))), (1, 1, (.c (.str ⟨#[38, 35]⟩)))]⟩,
 ⟨(some 10), none, .alc (.agg [(.str ⟨#[]⟩), (.str ⟨#[]⟩)])⟩,
 ⟨none, none, .store 2 (.t 10) (.t 37)⟩] [] false)
(.seq
(.reg [⟨(some 38), none, .build [(.int .i64 0), (.int .i64 0)] [(0, 1, (.c (.int .i64 16))), (1, 1, (.c (.int .i64 10)))]⟩,
 ⟨(some 11), none, .alc (.agg [(.int .i64 0), (.int .i64 0)])⟩,
 ⟨none, none, .store 2 (.t 11) (.t 38)⟩] [] false)
(.seq
(.seq
(.reg [⟨(some 12), none, .mov (.c (.int .i64 0))⟩] [] false)
(.block 2
 (.loop
  (.seq
  (.seq
  (.reg [⟨(some 39), none, .mov (.t 12)⟩,
   ⟨(some 40), none, .bin .lss (.t 39) (.c (.int .i64 2))⟩] [] false)
  (.cond (.t 40)
   .skip
   (.exit 2)))
  (.seq
  (.block 3
   (.seq
   (.reg [⟨(some 43), none, .mov (.t 0)⟩,
    ⟨(some 44), none, .mov (.t 1)⟩,
    ⟨(some 45), none, .mov (.t 12)⟩,
    ⟨(some 46), none, .idxa 2 1 (.t 10) (.t 45)⟩,
    ⟨(some 47), none, .load false 1 (.t 46)⟩,
    ⟨(some 48), none, .call (.c (.fn 296 [] [])) [(.t 43), (.t 44), (.t 47)]⟩,
    ⟨(some 13), none, .mov (.t 48)⟩] [] false)
   (.seq
   (.seq
   (.reg [⟨(some 49), none, .mov (.t 13)⟩,
    ⟨(some 50), none, .un .not (.t 49)⟩] [] false)
   (.cond (.t 50)
    (.exit 3)
    .skip))
   (.seq
   (.reg [⟨(some 52), none, .mov (.t 0)⟩,
    ⟨(some 53), none, .mov (.t 1)⟩,
    ⟨(some 54), none, .mov (.t 12)⟩,
    ⟨(some 55), none, .idxa 2 1 (.t 10) (.t 54)⟩,
    ⟨(some 56), none, .load false 1 (.t 55)⟩,
    ⟨(some 57), none, .slen (.t 56)⟩,
    ⟨(some 58), none, .bin .add (.t 53) (.t 57)⟩,
    ⟨(some 59), none, .mov (.t 12)⟩,
    ⟨(some 60), none, .idxa 2 1 (.t 11) (.t 59)⟩,
    ⟨(some 61), none, .load false 1 (.t 60)⟩,
    ⟨(some 62), none, .call (.c (.fn 297 [] [])) [(.t 52), (.t 58), (.t 61)]⟩,
    ⟨(some 51), none, .mov (.t 62)⟩,
    ⟨(some 63), none, .ext (.t 51) 0⟩,
    ⟨(some 64), none, .ext (.t 51) 1⟩,
    ⟨(some 14), none, .mov (.t 63)⟩,
    ⟨(some 15), none, .mov (.t 64)⟩] [] false)
   (.seq
   (.reg [⟨(some 65), none, .mov (.t 14)⟩,
    ⟨(some 66), none, .call (.c (.fn 222 [] [])) [(.t 65)]⟩,
    ⟨(some 16), none, .mov (.t 66)⟩] [] false)
   (.seq
   (.reg [⟨(some 67), none, .mov (.t 15)⟩,
    ⟨(some 68), none, .bin .gtr (.t 67) (.c (.int .i64 0))⟩,
    ⟨(some 69), none, .mov (.t 68)⟩,
    ⟨(some 70), (some (69, true)), .mov (.t 16)⟩,
    ⟨(some 71), none, .pick (.t 69) (.t 70) (.c (.bool false))⟩] [] false)
   (.cond (.t 71)
    (.seq
    (.reg [⟨(some 72), none, .mov (.t 14)⟩,
     ⟨(some 73), none, .call (.c (.fn 266 [] [])) [(.t 72)]⟩,
     ⟨(some 74), none, .mov (.t 12)⟩,
     ⟨(some 75), none, .idxa 2 1 (.t 10) (.t 74)⟩,
     ⟨(some 76), none, .load false 1 (.t 75)⟩,
     ⟨(some 77), none, .slen (.t 76)⟩,
     ⟨(some 78), none, .mov (.t 15)⟩,
     ⟨(some 79), none, .bin .add (.t 77) (.t 78)⟩,
     ⟨(some 80), none, .bin .add (.t 79) (.c (.int .i64 1))⟩,
     ⟨(some 4), none, .mov (.t 73)⟩,
     ⟨(some 5), none, .mov (.t 80)⟩] [] true)
    .ret)
    .skip)))))))
  (.reg [⟨(some 41), none, .mov (.t 12)⟩,
   ⟨(some 42), none, .bin .add (.t 41) (.c (.int .i64 1))⟩,
   ⟨(some 12), none, .mov (.t 42)⟩] [] false))))))
(.seq
(.reg [⟨(some 4), none, .mov (.c (.str ⟨#[]⟩))⟩,
 ⟨(some 5), none, .mov (.c (.int .i64 0))⟩] [] false)
.ret))))))))⟩
-- 269 math/bits.Mul32
def n_math_bits_Mul32 : Nat := 269
def af_math_bits_Mul32 : AF := ⟨17, [.tmp 4, .tmp 5],
(.seq
(.reg [⟨(some 4), none, .mov (.c (.int .u32 0))⟩,
 ⟨(some 5), none, .mov (.c (.int .u32 0))⟩] [] false)
(.seq
(.reg [⟨(some 7), none, .mov (.t 0)⟩,
 ⟨(some 8), none, .conv .u64 (.t 7)⟩,
 ⟨(some 9), none, .mov (.t 1)⟩,
 ⟨(some 10), none, .conv .u64 (.t 9)⟩,
 ⟨(some 11), none, .bin .mul (.t 8) (.t 10)⟩,
 ⟨(some 6), none, .mov (.t 11)⟩] [] false)
(.seq
(.reg [⟨(some 12), none, .mov (.t 6)⟩,
 ⟨(some 13), none, .bin .shr (.t 12) (.c (.int .u64 32))⟩,
 ⟨(some 14), none, .conv .u32 (.t 13)⟩,
 ⟨(some 15), none, .mov (.t 6)⟩,
 ⟨(some 16), none, .conv .u32 (.t 15)⟩,
 ⟨(some 4), none, .mov (.t 14)⟩,
 ⟨(some 5), none, .mov (.t 16)⟩] [] false)
.ret)))⟩
-- 270 math/bits.Mul64
def n_math_bits_Mul64 : Nat := 270
def af_math_bits_Mul64 : AF := ⟨51, [.tmp 4, .tmp 5],
(.seq
(.reg [⟨(some 4), none, .mov (.c (.int .u64 0))⟩,
 ⟨(some 5), none, .mov (.c (.int .u64 0))⟩] [] false)
(.seq
(.reg [⟨(some 14), none, .mov (.t 0)⟩,
 ⟨(some 15), none, .bin .and (.t 14) (.c (.int .u64 4294967295))⟩,
 ⟨(some 6), none, .mov (.t 15)⟩] [] false)
(.seq
(.reg [⟨(some 16), none, .mov (.t 0)⟩,
 ⟨(some 17), none, .bin .shr (.t 16) (.c (.int .u64 32))⟩,
 ⟨(some 7), none, .mov (.t 17)⟩] [] false)
(.seq
(.reg [⟨(some 18), none, .mov (.t 1)⟩,
 ⟨(some 19), none, .bin .and (.t 18) (.c (.int .u64 4294967295))⟩,
 ⟨(some 8), none, .mov (.t 19)⟩] [] false)
(.seq
(.reg [⟨(some 20), none, .mov (.t 1)⟩,
 ⟨(some 21), none, .bin .shr (.t 20) (.c (.int .u64 32))⟩,
 ⟨(some 9), none, .mov (.t 21)⟩] [] false)
(.seq
(.reg [⟨(some 22), none, .mov (.t 6)⟩,
 ⟨(some 23), none, .mov (.t 8)⟩,
 ⟨(some 24), none, .bin .mul (.t 22) (.t 23)⟩,
 ⟨(some 10), none, .mov (.t 24)⟩] [] false)
(.seq
(.reg [⟨(some 25), none, .mov (.t 7)⟩,
 ⟨(some 26), none, .mov (.t 8)⟩,
 ⟨(some 27), none, .bin .mul (.t 25) (.t 26)⟩,
 ⟨(some 28), none, .mov (.t 10)⟩,
 ⟨(some 29), none, .bin .shr (.t 28) (.c (.int .u64 32))⟩,
 ⟨(some 30), none, .bin .add (.t 27) (.t 29)⟩,
 ⟨(some 11), none, .mov (.t 30)⟩] [] false)
(.seq
(.reg [⟨(some 31), none, .mov (.t 11)⟩,
 ⟨(some 32), none, .bin .and (.t 31) (.c (.int .u64 4294967295))⟩,
 ⟨(some 12), none, .mov (.t 32)⟩] [] false)
(.seq
(.reg [⟨(some 33), none, .mov (.t 11)⟩,
 ⟨(some 34), none, .bin .shr (.t 33) (.c (.int .u64 32))⟩,
 ⟨(some 13), none, .mov (.t 34)⟩] [] false)
(.seq
(.reg [⟨(some 35), none, .mov (.t 12)⟩,
 ⟨(some 36), none, .mov (.t 6)⟩,
 ⟨(some 37), none, .mov (.t 9)⟩,
 ⟨(some 38), none, .bin .mul (.t 36) (.t 37)⟩,
 ⟨(some 39), none, .bin .add (.t 35) (.t 38)⟩,
 ⟨(some 12), none, .mov (.t 39)⟩] [] false)
(.seq
(.reg [⟨(some 40), none, .mov (.t 7)⟩,
 ⟨(some 41), none, .mov (.t 9)⟩,
 ⟨(some 42), none, .bin .mul (.t 40) (.t 41)⟩,
 ⟨(some 43), none, .mov (.t 13)⟩,
 ⟨(some 44), none, .bin .add (.t 42) (.t 43)⟩,
 ⟨(some 45), none, .mov (.t 12)⟩,
 ⟨(some 46), none, .bin .shr (.t 45) (.c (.int .u64 32))⟩,
 ⟨(some 47), none, .bin .add (.t 44) (.t 46)⟩,
 ⟨(some 4), none, .mov (.t 47)⟩] [] false)
(.seq
(.reg [⟨(some 48), none, .mov (.t 0)⟩,
 ⟨(some 49), none, .mov (.t 1)⟩,
 ⟨(some 50), none, .bin .mul (.t 48) (.t 49)⟩,
 ⟨(some 5), none, .mov (.t 50)⟩] [] false)
.ret))))))))))))⟩
-- 271 topiary/order.Stable$1
def n_order_Stable_1 : Nat := 271
def af_order_Stable_1 : AF := ⟨11, [.tmp 3],
(.seq
(.reg [⟨(some 3), none, .mov (.c (.bool false))⟩] [] false)
(.seq
(.reg [⟨(some 4), none, .mov (.t 0)⟩,
 ⟨(some 5), none, .bin .lss (.t 4) (.c (.int .i64 0))⟩,
 ⟨(some 6), none, .mov (.t 5)⟩,
 ⟨(some 7), (some (6, false)), .mov (.t 0)⟩,
 ⟨(some 8), (some (6, false)), .load false 1 (.t 1)⟩,
 ⟨(some 9), (some (6, false)), .bin .geq (.t 7) (.t 8)⟩,
 ⟨(some 10), none, .pick (.t 6) (.c (.bool true)) (.t 9)⟩,
 ⟨(some 3), none, .mov (.t 10)⟩] [] false)
.ret))⟩
-- 272 topiary/order.buckets
def n_order_buckets : Nat := 272
def af_order_buckets : AF := ⟨41, [.tmp 6],
(.seq
(.reg [⟨(some 3), none, .box (.t 0)⟩,
 ⟨(some 4), none, .box (.t 1)⟩,
 ⟨(some 6), none, .mov (.c (.sl true []))⟩] [] false)
(.seq
(.reg [⟨(some 11), none, .mov (.t 2)⟩,
 ⟨(some 12), none, .bin .add (.t 11) (.c (.int .i64 1))⟩,
 ⟨(some 13), none, .mks 3 1 8 (.int .i64 0) (.t 12)⟩,
 ⟨(some 7), none, .alc (.sl true [])⟩,
 ⟨none, none, .store 1 (.t 7) (.t 13)⟩] [] false)
(.seq
(.reg [⟨(some 14), none, .mkf 298 [] [(.t 3), (.t 4)]⟩,
 ⟨(some 8), none, .mov (.t 14)⟩] [] false)
(.seq
(.reg [⟨(some 15), none, .mov (.t 8)⟩,
 ⟨(some 16), none, .mkf 299 [] [(.t 7)]⟩,
 ⟨(some 17), none, .call (.t 15) [(.t 16)]⟩] [] false)
(.seq
(.seq
(.reg [⟨(some 18), none, .mov (.t 2)⟩,
 ⟨(some 19), none, .mov (.c (.int .i64 0))⟩] [] false)
(.block 0
 (.loop
  (.seq
  (.reg [⟨(some 20), none, .bin .lss (.t 19) (.t 18)⟩] [] false)
  (.seq
  (.cond (.t 20)
   .skip
   (.exit 0))
  (.seq
  (.block 1
   (.seq
   (.reg [⟨(some 21), none, .mov (.t 19)⟩,
    ⟨(some 9), none, .mov (.t 21)⟩] [] false)
   (.reg [⟨(some 22), none, .load false 1 (.t 7)⟩,
    ⟨(some 23), none, .mov (.t 9)⟩,
    ⟨(some 24), none, .bin .add (.t 23) (.c (.int .i64 1))⟩,
    ⟨(some 25), none, .idx 1 (.t 22) (.t 24)⟩,
    ⟨(some 26), none, .load false 1 (.t 25)⟩,
    ⟨(some 27), none, .load false 1 (.t 7)⟩,
    ⟨(some 28), none, .mov (.t 9)⟩,
    ⟨(some 29), none, .idx 1 (.t 27) (.t 28)⟩,
    ⟨(some 30), none, .load false 1 (.t 29)⟩,
    ⟨(some 31), none, .bin .add (.t 26) (.t 30)⟩,
    ⟨(some 32), none, .idx 1 (.t 22) (.t 24)⟩,
    ⟨none, none, .store 1 (.t 32) (.t 31)⟩] [] false)))
  (.reg [⟨(some 33), none, .bin .add (.t 19) (.c (.int .i64 1))⟩,
   ⟨(some 19), none, .mov (.t 33)⟩] [] false)))))))
(.seq
(.reg [⟨(some 34), none, .load false 1 (.t 3)⟩,
 ⟨(some 35), none, .len (.t 34)⟩,
 ⟨(some 36), none, .mks 3 1 8 (.int .i64 0) (.t 35)⟩,
 ⟨(some 10), none, .alc (.sl true [])⟩,
 ⟨none, none, .store 1 (.t 10) (.t 36)⟩] [] false)
(.seq
(.reg [⟨(some 37), none, .mov (.t 8)⟩,
 ⟨(some 38), none, .mkf 300 [] [(.t 10), (.t 7)]⟩,
 ⟨(some 39), none, .call (.t 37) [(.t 38)]⟩] [] false)
(.seq
(.reg [⟨(some 40), none, .load false 1 (.t 10)⟩,
 ⟨(some 6), none, .mov (.t 40)⟩] [] false)
.ret))))))))⟩
-- 273 topiary/order.all
def n_order_all : Nat := 273
def af_order_all : AF := ⟨18, [.tmp 2],
(.seq
(.reg [⟨(some 2), none, .mov (.c (.sl true []))⟩] [] false)
(.seq
(.reg [⟨(some 5), none, .mov (.t 0)⟩,
 ⟨(some 6), none, .mks 3 1 8 (.int .i64 0) (.t 5)⟩,
 ⟨(some 3), none, .mov (.t 6)⟩] [] false)
(.seq
(.seq
(.reg [⟨(some 7), none, .mov (.t 3)⟩,
 ⟨(some 8), none, .len (.t 7)⟩,
 ⟨(some 9), none, .mov (.c (.int .i64 0))⟩] [] false)
(.block 0
 (.loop
  (.seq
  (.reg [⟨(some 10), none, .bin .lss (.t 9) (.t 8)⟩] [] false)
  (.seq
  (.cond (.t 10)
   .skip
   (.exit 0))
  (.seq
  (.block 1
   (.seq
   (.reg [⟨(some 11), none, .mov (.t 9)⟩,
    ⟨(some 4), none, .mov (.t 11)⟩] [] false)
   (.reg [⟨(some 12), none, .mov (.t 3)⟩,
    ⟨(some 13), none, .mov (.t 4)⟩,
    ⟨(some 14), none, .mov (.t 4)⟩,
    ⟨(some 15), none, .idx 1 (.t 12) (.t 13)⟩,
    ⟨none, none, .store 1 (.t 15) (.t 14)⟩] [] false)))
  (.reg [⟨(some 16), none, .bin .add (.t 9) (.c (.int .i64 1))⟩,
   ⟨(some 9), none, .mov (.t 16)⟩] [] false)))))))
(.seq
(.reg [⟨(some 17), none, .mov (.t 3)⟩,
 ⟨(some 2), none, .mov (.t 17)⟩] [] false)
.ret))))⟩
-- 274 topiary/order.Ranks
def n_order_Ranks : Nat := 274
def af_order_Ranks : AF := ⟨33, [.tmp 2],
(.seq
(.reg [⟨(some 2), none, .mov (.c (.sl true []))⟩] [] false)
(.seq
(.reg [⟨(some 9), none, .mov (.t 0)⟩,
 ⟨(some 10), none, .call (.c (.fn 103 [] [])) [(.t 9)]⟩,
 ⟨(some 3), none, .mov (.t 10)⟩] [] false)
(.seq
(.reg [⟨(some 11), none, .mov (.t 3)⟩,
 ⟨(some 12), none, .call (.c (.fn 107 [] [])) [(.t 11)]⟩] [] false)
(.seq
(.reg [⟨(some 13), none, .mov (.t 3)⟩,
 ⟨(some 14), none, .call (.c (.fn 292 [] [])) [(.t 13)]⟩,
 ⟨(some 3), none, .mov (.t 14)⟩] [] false)
(.seq
(.reg [⟨(some 4), none, .mov (.c (.sl true []))⟩] [] false)
(.seq
(.seq
(.reg [⟨(some 15), none, .mov (.t 0)⟩,
 ⟨(some 16), none, .len (.t 15)⟩,
 ⟨(some 17), none, .mov (.c (.int .i64 0))⟩] [] false)
(.block 0
 (.loop
  (.seq
  (.reg [⟨(some 18), none, .bin .lss (.t 17) (.t 16)⟩] [] false)
  (.seq
  (.cond (.t 18)
   .skip
   (.exit 0))
  (.seq
  (.block 1
   (.seq
   (.reg [⟨(some 19), none, .idx 1 (.t 15) (.t 17)⟩,
    ⟨(some 20), none, .load false 1 (.t 19)⟩,
    ⟨(some 6), none, .mov (.t 20)⟩] [] false)
   (.seq
   (.reg [⟨(some 22), none, .mov (.t 3)⟩,
    ⟨(some 23), none, .mov (.t 6)⟩,
    ⟨(some 24), none, .call (.c (.fn 301 [] [])) [(.t 22), (.t 23)]⟩,
    ⟨(some 21), none, .mov (.t 24)⟩,
    ⟨(some 25), none, .ext (.t 21) 0⟩,
    ⟨(some 26), none, .ext (.t 21) 1⟩,
    ⟨(some 7), none, .mov (.t 25)⟩,
    ⟨(some 8), none, .mov (.t 26)⟩] [] false)
   (.reg [⟨(some 27), none, .mov (.t 4)⟩,
    ⟨(some 28), none, .mov (.t 7)⟩,
    ⟨(some 29), none, .bsl 3 1 [(.t 28)]⟩,
    ⟨(some 30), none, .app 3 1 8 (.t 27) (.t 29)⟩,
    ⟨(some 4), none, .mov (.t 30)⟩] [] false))))
  (.reg [⟨(some 31), none, .bin .add (.t 17) (.c (.int .i64 1))⟩,
   ⟨(some 17), none, .mov (.t 31)⟩] [] false)))))))
(.seq
(.reg [⟨(some 32), none, .mov (.t 4)⟩,
 ⟨(some 2), none, .mov (.t 32)⟩] [] false)
.ret)))))))⟩
-- 275 slices.Max[[]int,int]
def n_slices_Max_int : Nat := 275
def af_slices_Max_int : AF := ⟨25, [.tmp 2],
(.seq
(.reg [⟨(some 2), none, .mov (.c (.int .i64 0))⟩] [] false)
(.seq
(.seq
(.reg [⟨(some 5), none, .mov (.t 0)⟩,
 ⟨(some 6), none, .len (.t 5)⟩,
 ⟨(some 7), none, .bin .lss (.t 6) (.c (.int .i64 1))⟩] [] false)
(.cond (.t 7)
 (.reg [⟨(some 8), none, .bad ⟩,
  ⟨none, none, .bad ⟩] [] false)
 .skip))
(.seq
(.reg [⟨(some 9), none, .mov (.t 0)⟩,
 ⟨(some 10), none, .idx 1 (.t 9) (.c (.int .i64 0))⟩,
 ⟨(some 11), none, .load false 1 (.t 10)⟩,
 ⟨(some 3), none, .mov (.t 11)⟩] [] false)
(.seq
(.seq
(.reg [⟨(some 4), none, .mov (.c (.int .i64 1))⟩] [] false)
(.block 0
 (.loop
  (.seq
  (.seq
  (.reg [⟨(some 12), none, .mov (.t 4)⟩,
   ⟨(some 13), none, .mov (.t 0)⟩,
   ⟨(some 14), none, .len (.t 13)⟩,
   ⟨(some 15), none, .bin .lss (.t 12) (.t 14)⟩] [] false)
  (.cond (.t 15)
   .skip
   (.exit 0)))
  (.seq
  (.block 1
   (.reg [⟨(some 18), none, .mov (.t 3)⟩,
    ⟨(some 19), none, .mov (.t 0)⟩,
    ⟨(some 20), none, .mov (.t 4)⟩,
    ⟨(some 21), none, .idx 1 (.t 19) (.t 20)⟩,
    ⟨(some 22), none, .load false 1 (.t 21)⟩,
    ⟨(some 23), none, .mx (.t 18) [(.t 22)]⟩,
    ⟨(some 3), none, .mov (.t 23)⟩] [] false))
  (.reg [⟨(some 16), none, .mov (.t 4)⟩,
   ⟨(some 17), none, .bin .add (.t 16) (.c (.int .i64 1))⟩,
   ⟨(some 4), none, .mov (.t 17)⟩] [] false))))))
(.seq
(.reg [⟨(some 24), none, .mov (.t 3)⟩,
 ⟨(some 2), none, .mov (.t 24)⟩] [] false)
.ret)))))⟩
-- 276 topiary/xbw.ranks$1
def n_xbw_ranks_1 : Nat := 276
def af_xbw_ranks_1 : AF := ⟨34, [.tmp 6],
(.seq
(.reg [⟨(some 6), none, .mov (.c (.sl true []))⟩] [] false)
(.seq
(.reg [⟨(some 10), none, .load false 1 (.t 2)⟩,
 ⟨(some 11), none, .mks 3 1 8 (.int .i64 0) (.t 10)⟩,
 ⟨(some 7), none, .mov (.t 11)⟩] [] false)
(.seq
(.seq
(.reg [⟨(some 12), none, .load false 1 (.t 3)⟩,
 ⟨(some 13), none, .len (.t 12)⟩,
 ⟨(some 14), none, .mov (.c (.int .i64 0))⟩] [] false)
(.block 0
 (.loop
  (.seq
  (.reg [⟨(some 15), none, .bin .lss (.t 14) (.t 13)⟩] [] false)
  (.seq
  (.cond (.t 15)
   .skip
   (.exit 0))
  (.seq
  (.block 1
   (.seq
   (.reg [⟨(some 16), none, .mov (.t 14)⟩,
    ⟨(some 17), none, .idx 1 (.t 12) (.t 14)⟩,
    ⟨(some 18), none, .load false 1 (.t 17)⟩,
    ⟨(some 8), none, .mov (.t 16)⟩,
    ⟨(some 9), none, .mov (.t 18)⟩] [] false)
   (.seq
   (.reg [⟨(some 19), none, .mov (.t 7)⟩,
    ⟨(some 20), none, .mov (.t 8)⟩,
    ⟨(some 21), none, .mov (.t 1)⟩,
    ⟨(some 22), none, .idx 1 (.t 19) (.t 20)⟩,
    ⟨none, none, .store 1 (.t 22) (.t 21)⟩] [] false)
   (.seq
   (.reg [⟨(some 23), none, .mov (.t 9)⟩,
    ⟨(some 24), none, .bin .geq (.t 23) (.c (.int .i64 0))⟩] [] false)
   (.cond (.t 24)
    (.reg [⟨(some 25), none, .mov (.t 7)⟩,
     ⟨(some 26), none, .mov (.t 8)⟩,
     ⟨(some 27), none, .mov (.t 0)⟩,
     ⟨(some 28), none, .mov (.t 9)⟩,
     ⟨(some 29), none, .idx 1 (.t 27) (.t 28)⟩,
     ⟨(some 30), none, .load false 1 (.t 29)⟩,
     ⟨(some 31), none, .idx 1 (.t 25) (.t 26)⟩,
     ⟨none, none, .store 1 (.t 31) (.t 30)⟩] [] false)
    .skip)))))
  (.reg [⟨(some 32), none, .bin .add (.t 14) (.c (.int .i64 1))⟩,
   ⟨(some 14), none, .mov (.t 32)⟩] [] false)))))))
(.seq
(.reg [⟨(some 33), none, .mov (.t 7)⟩,
 ⟨(some 6), none, .mov (.t 33)⟩] [] false)
.ret))))⟩
-- 277 slices.siftDownOrdered[int]
def n_slices_siftDownOrdered_int : Nat := 277
def af_slices_siftDownOrdered_int : AF := ⟨76, [],
(.seq
(.reg [⟨(some 10), none, .mov (.t 1)⟩,
 ⟨(some 8), none, .mov (.t 10)⟩] [] false)
(.block 0
 (.loop
  (.block 1
   (.seq
   (.reg [⟨(some 11), none, .mov (.t 8)⟩,
    ⟨(some 12), none, .bin .mul (.c (.int .i64 2)) (.t 11)⟩,
    ⟨(some 13), none, .bin .add (.t 12) (.c (.int .i64 1))⟩,
    ⟨(some 9), none, .mov (.t 13)⟩] [] false)
   (.seq
   (.seq
   (.reg [⟨(some 14), none, .mov (.t 9)⟩,
    ⟨(some 15), none, .mov (.t 2)⟩,
    ⟨(some 16), none, .bin .geq (.t 14) (.t 15)⟩] [] false)
   (.cond (.t 16)
    (.exit 0)
    .skip))
   (.seq
   (.seq
   (.reg [⟨(some 17), none, .mov (.t 9)⟩,
    ⟨(some 18), none, .bin .add (.t 17) (.c (.int .i64 1))⟩,
    ⟨(some 19), none, .mov (.t 2)⟩,
    ⟨(some 20), none, .bin .lss (.t 18) (.t 19)⟩,
    ⟨(some 21), none, .mov (.t 20)⟩,
    ⟨(some 22), (some (21, true)), .mov (.t 0)⟩,
    ⟨(some 23), (some (21, true)), .mov (.t 3)⟩,
    ⟨(some 24), (some (21, true)), .mov (.t 9)⟩,
    ⟨(some 25), (some (21, true)), .bin .add (.t 23) (.t 24)⟩,
    ⟨(some 26), (some (21, true)), .idx 1 (.t 22) (.t 25)⟩,
    ⟨(some 27), (some (21, true)), .load false 1 (.t 26)⟩,
    ⟨(some 28), (some (21, true)), .mov (.t 0)⟩,
    ⟨(some 29), (some (21, true)), .mov (.t 3)⟩,
    ⟨(some 30), (some (21, true)), .mov (.t 9)⟩,
    ⟨(some 31), (some (21, true)), .bin .add (.t 29) (.t 30)⟩,
    ⟨(some 32), (some (21, true)), .bin .add (.t 31) (.c (.int .i64 1))⟩,
    ⟨(some 33), (some (21, true)), .idx 1 (.t 28) (.t 32)⟩,
    ⟨(some 34), (some (21, true)), .load false 1 (.t 33)⟩,
    ⟨(some 35), (some (21, true)), .call (.c (.fn 164 [] [])) [(.t 27), (.t 34)]⟩,
    ⟨(some 36), none, .pick (.t 21) (.t 35) (.c (.bool false))⟩] [] false)
   (.cond (.t 36)
    (.reg [⟨(some 37), none, .mov (.t 9)⟩,
     ⟨(some 38), none, .bin .add (.t 37) (.c (.int .i64 1))⟩,
     ⟨(some 9), none, .mov (.t 38)⟩] [] false)
    .skip))
   (.seq
   (.seq
   (.reg [⟨(some 39), none, .mov (.t 0)⟩,
    ⟨(some 40), none, .mov (.t 3)⟩,
    ⟨(some 41), none, .mov (.t 8)⟩,
    ⟨(some 42), none, .bin .add (.t 40) (.t 41)⟩,
    ⟨(some 43), none, .idx 1 (.t 39) (.t 42)⟩,
    ⟨(some 44), none, .load false 1 (.t 43)⟩,
    ⟨(some 45), none, .mov (.t 0)⟩,
    ⟨(some 46), none, .mov (.t 3)⟩,
    ⟨(some 47), none, .mov (.t 9)⟩,
    ⟨(some 48), none, .bin .add (.t 46) (.t 47)⟩,
    ⟨(some 49), none, .idx 1 (.t 45) (.t 48)⟩,
    ⟨(some 50), none, .load false 1 (.t 49)⟩,
    ⟨(some 51), none, .call (.c (.fn 164 [] [])) [(.t 44), (.t 50)]⟩,
    ⟨(some 52), none, .un .not (.t 51)⟩] [] false)
   (.cond (.t 52)
    .ret
    .skip))
   (.seq
   (.reg [⟨(some 53), none, .mov (.t 0)⟩,
    ⟨(some 54), none, .mov (.t 3)⟩,
    ⟨(some 55), none, .mov (.t 8)⟩,
    ⟨(some 56), none, .bin .add (.t 54) (.t 55)⟩,
    ⟨(some 57), none, .mov (.t 0)⟩,
    ⟨(some 58), none, .mov (.t 3)⟩,
    ⟨(some 59), none, .mov (.t 9)⟩,
    ⟨(some 60), none, .bin .add (.t 58) (.t 59)⟩,
    ⟨(some 61), none, .mov (.t 0)⟩,
    ⟨(some 62), none, .mov (.t 3)⟩,
    ⟨(some 63), none, .mov (.t 9)⟩,
    ⟨(some 64), none, .bin .add (.t 62) (.t 63)⟩,
    ⟨(some 65), none, .idx 1 (.t 61) (.t 64)⟩,
    ⟨(some 66), none, .load false 1 (.t 65)⟩,
    ⟨(some 67), none, .mov (.t 0)⟩,
    ⟨(some 68), none, .mov (.t 3)⟩,
    ⟨(some 69), none, .mov (.t 8)⟩,
    ⟨(some 70), none, .bin .add (.t 68) (.t 69)⟩,
    ⟨(some 71), none, .idx 1 (.t 67) (.t 70)⟩,
    ⟨(some 72), none, .load false 1 (.t 71)⟩,
    ⟨(some 73), none, .idx 1 (.t 53) (.t 56)⟩,
    ⟨none, none, .store 1 (.t 73) (.t 66)⟩,
    ⟨(some 74), none, .idx 1 (.t 57) (.t 60)⟩,
    ⟨none, none, .store 1 (.t 74) (.t 72)⟩] [] false)
   (.reg [⟨(some 75), none, .mov (.t 9)⟩,
    ⟨(some 8), none, .mov (.t 75)⟩] [] false))))))))))⟩
-- 278 slices.nextPowerOfTwo
def n_slices_nextPowerOfTwo : Nat := 278
def af_slices_nextPowerOfTwo : AF := ⟨7, [.tmp 2],
(.seq
(.reg [⟨(some 2), none, .mov (.c (.int .u64 0))⟩] [] false)
(.seq
(.reg [⟨(some 3), none, .mov (.t 0)⟩,
 ⟨(some 4), none, .conv .u64 (.t 3)⟩,
 ⟨(some 5), none, .call (.c (.fn 173 [] [])) [(.t 4)]⟩,
 ⟨(some 6), none, .bin .shl (.c (.int .u64 1)) (.t 5)⟩,
 ⟨(some 2), none, .mov (.t 6)⟩] [] false)
.ret))⟩
-- 279 (*slices.xorshift).Next
def n_slices_xorshift_Next : Nat := 279
def af_slices_xorshift_Next : AF := ⟨33, [.tmp 2],
(.seq
(.reg [⟨(some 2), none, .mov (.c (.int .u64 0))⟩] [] false)
(.seq
(.reg [⟨(some 3), none, .mov (.t 0)⟩,
 ⟨(some 4), none, .nck (.t 3)⟩,
 ⟨(some 5), none, .load false 1 (.t 4)⟩,
 ⟨(some 6), none, .mov (.t 0)⟩,
 ⟨(some 7), none, .nck (.t 6)⟩,
 ⟨(some 8), none, .load false 1 (.t 7)⟩,
 ⟨(some 9), none, .bin .shl (.t 8) (.c (.int .u64 13))⟩,
 ⟨(some 10), none, .bin .xor (.t 5) (.t 9)⟩,
 ⟨(some 11), none, .nck (.t 3)⟩,
 ⟨none, none, .store 1 (.t 11) (.t 10)⟩] [] false)
(.seq
(.reg [⟨(some 12), none, .mov (.t 0)⟩,
 ⟨(some 13), none, .nck (.t 12)⟩,
 ⟨(some 14), none, .load false 1 (.t 13)⟩,
 ⟨(some 15), none, .mov (.t 0)⟩,
 ⟨(some 16), none, .nck (.t 15)⟩,
 ⟨(some 17), none, .load false 1 (.t 16)⟩,
 ⟨(some 18), none, .bin .shr (.t 17) (.c (.int .u64 7))⟩,
 ⟨(some 19), none, .bin .xor (.t 14) (.t 18)⟩,
 ⟨(some 20), none, .nck (.t 12)⟩,
 ⟨none, none, .store 1 (.t 20) (.t 19)⟩] [] false)
(.seq
(.reg [⟨(some 21), none, .mov (.t 0)⟩,
 ⟨(some 22), none, .nck (.t 21)⟩,
 ⟨(some 23), none, .load false 1 (.t 22)⟩,
 ⟨(some 24), none, .mov (.t 0)⟩,
 ⟨(some 25), none, .nck (.t 24)⟩,
 ⟨(some 26), none, .load false 1 (.t 25)⟩,
 ⟨(some 27), none, .bin .shl (.t 26) (.c (.int .u64 17))⟩,
 ⟨(some 28), none, .bin .xor (.t 23) (.t 27)⟩,
 ⟨(some 29), none, .nck (.t 21)⟩,
 ⟨none, none, .store 1 (.t 29) (.t 28)⟩] [] false)
(.seq
(.reg [⟨(some 30), none, .mov (.t 0)⟩,
 ⟨(some 31), none, .nck (.t 30)⟩,
 ⟨(some 32), none, .load false 1 (.t 31)⟩,
 ⟨(some 2), none, .mov (.t 32)⟩] [] false)
.ret)))))⟩
-- 280 slices.medianAdjacentOrdered[int]
def n_slices_medianAdjacentOrdered_int : Nat := 280
def af_slices_medianAdjacentOrdered_int : AF := ⟨15, [.tmp 6],
(.seq
(.reg [⟨(some 6), none, .mov (.c (.int .i64 0))⟩] [] false)
(.seq
(.reg [⟨(some 7), none, .mov (.t 0)⟩,
 ⟨(some 8), none, .mov (.t 1)⟩,
 ⟨(some 9), none, .bin .sub (.t 8) (.c (.int .i64 1))⟩,
 ⟨(some 10), none, .mov (.t 1)⟩,
 ⟨(some 11), none, .mov (.t 1)⟩,
 ⟨(some 12), none, .bin .add (.t 11) (.c (.int .i64 1))⟩,
 ⟨(some 13), none, .mov (.t 2)⟩,
 ⟨(some 14), none, .call (.c (.fn 281 [] [])) [(.t 7), (.t 9), (.t 10), (.t 12), (.t 13)]⟩,
 ⟨(some 6), none, .mov (.t 14)⟩] [] false)
.ret))⟩
-- 281 slices.medianOrdered[int]
def n_slices_medianOrdered_int : Nat := 281
def af_slices_medianOrdered_int : AF := ⟨36, [.tmp 10],
(.seq
(.reg [⟨(some 10), none, .mov (.c (.int .i64 0))⟩] [] false)
(.seq
(.reg [⟨(some 12), none, .mov (.t 0)⟩,
 ⟨(some 13), none, .mov (.t 1)⟩,
 ⟨(some 14), none, .mov (.t 2)⟩,
 ⟨(some 15), none, .mov (.t 4)⟩,
 ⟨(some 16), none, .call (.c (.fn 302 [] [])) [(.t 12), (.t 13), (.t 14), (.t 15)]⟩,
 ⟨(some 11), none, .mov (.t 16)⟩,
 ⟨(some 17), none, .ext (.t 11) 0⟩,
 ⟨(some 18), none, .ext (.t 11) 1⟩,
 ⟨(some 1), none, .mov (.t 17)⟩,
 ⟨(some 2), none, .mov (.t 18)⟩] [] false)
(.seq
(.reg [⟨(some 20), none, .mov (.t 0)⟩,
 ⟨(some 21), none, .mov (.t 2)⟩,
 ⟨(some 22), none, .mov (.t 3)⟩,
 ⟨(some 23), none, .mov (.t 4)⟩,
 ⟨(some 24), none, .call (.c (.fn 302 [] [])) [(.t 20), (.t 21), (.t 22), (.t 23)]⟩,
 ⟨(some 19), none, .mov (.t 24)⟩,
 ⟨(some 25), none, .ext (.t 19) 0⟩,
 ⟨(some 26), none, .ext (.t 19) 1⟩,
 ⟨(some 2), none, .mov (.t 25)⟩,
 ⟨(some 3), none, .mov (.t 26)⟩] [] false)
(.seq
(.reg [⟨(some 28), none, .mov (.t 0)⟩,
 ⟨(some 29), none, .mov (.t 1)⟩,
 ⟨(some 30), none, .mov (.t 2)⟩,
 ⟨(some 31), none, .mov (.t 4)⟩,
 ⟨(some 32), none, .call (.c (.fn 302 [] [])) [(.t 28), (.t 29), (.t 30), (.t 31)]⟩,
 ⟨(some 27), none, .mov (.t 32)⟩,
 ⟨(some 33), none, .ext (.t 27) 0⟩,
 ⟨(some 34), none, .ext (.t 27) 1⟩,
 ⟨(some 1), none, .mov (.t 33)⟩,
 ⟨(some 2), none, .mov (.t 34)⟩] [] false)
(.seq
(.reg [⟨(some 35), none, .mov (.t 2)⟩,
 ⟨(some 10), none, .mov (.t 35)⟩] [] false)
.ret)))))⟩
-- 283 (topiary/bits.Bits).ahead$1
def n_bits_Bits_ahead_1 : Nat := 283
def af_bits_Bits_ahead_1 : AF := ⟨7, [],
(.reg [⟨(some 3), none, .load false 1 (.t 1)⟩,
 ⟨(some 4), none, .mov (.t 0)⟩,
 ⟨(some 5), none, .call (.c (.fn 284 [] [])) [(.t 4)]⟩,
 ⟨(some 6), none, .bin .add (.t 3) (.t 5)⟩,
 ⟨none, none, .store 1 (.t 1) (.t 6)⟩] [] true)⟩
-- 284 math/bits.OnesCount64
def n_math_bits_OnesCount64 : Nat := 284
def af_math_bits_OnesCount64 : AF := ⟨35, [.tmp 2],
(.seq
(.reg [⟨(some 2), none, .mov (.c (.int .i64 0))⟩] [] false)
(.seq
(.reg [⟨(some 3), none, .mov (.t 0)⟩,
 ⟨(some 4), none, .bin .shr (.t 3) (.c (.int .u64 1))⟩,
 ⟨(some 5), none, .bin .and (.t 4) (.c (.int .u64 6148914691236517205))⟩,
 ⟨(some 6), none, .mov (.t 0)⟩,
 ⟨(some 7), none, .bin .and (.t 6) (.c (.int .u64 6148914691236517205))⟩,
 ⟨(some 8), none, .bin .add (.t 5) (.t 7)⟩,
 ⟨(some 0), none, .mov (.t 8)⟩] [] false)
(.seq
(.reg [⟨(some 9), none, .mov (.t 0)⟩,
 ⟨(some 10), none, .bin .shr (.t 9) (.c (.int .u64 2))⟩,
 ⟨(some 11), none, .bin .and (.t 10) (.c (.int .u64 3689348814741910323))⟩,
 ⟨(some 12), none, .mov (.t 0)⟩,
 ⟨(some 13), none, .bin .and (.t 12) (.c (.int .u64 3689348814741910323))⟩,
 ⟨(some 14), none, .bin .add (.t 11) (.t 13)⟩,
 ⟨(some 0), none, .mov (.t 14)⟩] [] false)
(.seq
(.reg [⟨(some 15), none, .mov (.t 0)⟩,
 ⟨(some 16), none, .bin .shr (.t 15) (.c (.int .u64 4))⟩,
 ⟨(some 17), none, .mov (.t 0)⟩,
 ⟨(some 18), none, .bin .add (.t 16) (.t 17)⟩,
 ⟨(some 19), none, .bin .and (.t 18) (.c (.int .u64 1085102592571150095))⟩,
 ⟨(some 0), none, .mov (.t 19)⟩] [] false)
(.seq
(.reg [⟨(some 20), none, .mov (.t 0)⟩,
 ⟨(some 21), none, .mov (.t 0)⟩,
 ⟨(some 22), none, .bin .shr (.t 21) (.c (.int .u64 8))⟩,
 ⟨(some 23), none, .bin .add (.t 20) (.t 22)⟩,
 ⟨(some 0), none, .mov (.t 23)⟩] [] false)
(.seq
(.reg [⟨(some 24), none, .mov (.t 0)⟩,
 ⟨(some 25), none, .mov (.t 0)⟩,
 ⟨(some 26), none, .bin .shr (.t 25) (.c (.int .u64 16))⟩,
 ⟨(some 27), none, .bin .add (.t 24) (.t 26)⟩,
 ⟨(some 0), none, .mov (.t 27)⟩] [] false)
(.seq
(.reg [⟨(some 28), none, .mov (.t 0)⟩,
 ⟨(some 29), none, .mov (.t 0)⟩,
 ⟨(some 30), none, .bin .shr (.t 29) (.c (.int .u64 32))⟩,
 ⟨(some 31), none, .bin .add (.t 28) (.t 30)⟩,
 ⟨(some 0), none, .mov (.t 31)⟩] [] false)
(.seq
(.reg [⟨(some 32), none, .mov (.t 0)⟩,
 ⟨(some 33), none, .conv .i64 (.t 32)⟩,
 ⟨(some 34), none, .bin .and (.t 33) (.c (.int .i64 127))⟩,
 ⟨(some 2), none, .mov (.t 34)⟩] [] false)
.ret))))))))⟩
-- 285 slices.insertionSortCmpFunc[int]
def n_slices_insertionSortCmpFunc_int : Nat := 285
def af_slices_insertionSortCmpFunc_int : AF := ⟨53, [],
(.seq
(.reg [⟨(some 10), none, .mov (.t 1)⟩,
 ⟨(some 11), none, .bin .add (.t 10) (.c (.int .i64 1))⟩,
 ⟨(some 8), none, .mov (.t 11)⟩] [] false)
(.block 0
 (.loop
  (.seq
  (.seq
  (.reg [⟨(some 12), none, .mov (.t 8)⟩,
   ⟨(some 13), none, .mov (.t 2)⟩,
   ⟨(some 14), none, .bin .lss (.t 12) (.t 13)⟩] [] false)
  (.cond (.t 14)
   .skip
   (.exit 0)))
  (.seq
  (.block 1
   (.seq
   (.reg [⟨(some 17), none, .mov (.t 8)⟩,
    ⟨(some 9), none, .mov (.t 17)⟩] [] false)
   (.block 2
    (.loop
     (.seq
     (.seq
     (.reg [⟨(some 18), none, .mov (.t 9)⟩,
      ⟨(some 19), none, .mov (.t 1)⟩,
      ⟨(some 20), none, .bin .gtr (.t 18) (.t 19)⟩,
      ⟨(some 21), none, .mov (.t 20)⟩,
      ⟨(some 22), (some (21, true)), .mov (.t 3)⟩,
      ⟨(some 23), (some (21, true)), .mov (.t 0)⟩,
      ⟨(some 24), (some (21, true)), .mov (.t 9)⟩,
      ⟨(some 25), (some (21, true)), .idx 1 (.t 23) (.t 24)⟩,
      ⟨(some 26), (some (21, true)), .load false 1 (.t 25)⟩,
      ⟨(some 27), (some (21, true)), .mov (.t 0)⟩,
      ⟨(some 28), (some (21, true)), .mov (.t 9)⟩,
      ⟨(some 29), (some (21, true)), .bin .sub (.t 28) (.c (.int .i64 1))⟩,
      ⟨(some 30), (some (21, true)), .idx 1 (.t 27) (.t 29)⟩,
      ⟨(some 31), (some (21, true)), .load false 1 (.t 30)⟩,
      ⟨(some 32), (some (21, true)), .call (.t 22) [(.t 26), (.t 31)]⟩,
      ⟨(some 33), (some (21, true)), .bin .lss (.t 32) (.c (.int .i64 0))⟩,
      ⟨(some 34), none, .pick (.t 21) (.t 33) (.c (.bool false))⟩] [] false)
     (.cond (.t 34)
      .skip
      (.exit 2)))
     (.seq
     (.block 3
      (.reg [⟨(some 37), none, .mov (.t 0)⟩,
       ⟨(some 38), none, .mov (.t 9)⟩,
       ⟨(some 39), none, .mov (.t 0)⟩,
       ⟨(some 40), none, .mov (.t 9)⟩,
       ⟨(some 41), none, .bin .sub (.t 40) (.c (.int .i64 1))⟩,
       ⟨(some 42), none, .mov (.t 0)⟩,
       ⟨(some 43), none, .mov (.t 9)⟩,
       ⟨(some 44), none, .bin .sub (.t 43) (.c (.int .i64 1))⟩,
       ⟨(some 45), none, .idx 1 (.t 42) (.t 44)⟩,
       ⟨(some 46), none, .load false 1 (.t 45)⟩,
       ⟨(some 47), none, .mov (.t 0)⟩,
       ⟨(some 48), none, .mov (.t 9)⟩,
       ⟨(some 49), none, .idx 1 (.t 47) (.t 48)⟩,
       ⟨(some 50), none, .load false 1 (.t 49)⟩,
       ⟨(some 51), none, .idx 1 (.t 37) (.t 38)⟩,
       ⟨none, none, .store 1 (.t 51) (.t 46)⟩,
       ⟨(some 52), none, .idx 1 (.t 39) (.t 41)⟩,
       ⟨none, none, .store 1 (.t 52) (.t 50)⟩] [] false))
     (.reg [⟨(some 35), none, .mov (.t 9)⟩,
      ⟨(some 36), none, .bin .sub (.t 35) (.c (.int .i64 1))⟩,
      ⟨(some 9), none, .mov (.t 36)⟩] [] false)))))))
  (.reg [⟨(some 15), none, .mov (.t 8)⟩,
   ⟨(some 16), none, .bin .add (.t 15) (.c (.int .i64 1))⟩,
   ⟨(some 8), none, .mov (.t 16)⟩] [] false))))))⟩
-- 286 slices.symMergeCmpFunc[int]
def n_slices_symMergeCmpFunc_int : Nat := 286
def af_slices_symMergeCmpFunc_int : AF := ⟨220, [],
(.seq
(.seq
(.reg [⟨(some 25), none, .mov (.t 2)⟩,
 ⟨(some 26), none, .mov (.t 1)⟩,
 ⟨(some 27), none, .bin .sub (.t 25) (.t 26)⟩,
 ⟨(some 28), none, .bin .eql (.t 27) (.c (.int .i64 1))⟩] [] false)
(.cond (.t 28)
 (.seq
 (.reg [⟨(some 29), none, .mov (.t 2)⟩,
  ⟨(some 10), none, .mov (.t 29)⟩] [] false)
 (.seq
 (.reg [⟨(some 30), none, .mov (.t 3)⟩,
  ⟨(some 11), none, .mov (.t 30)⟩] [] false)
 (.seq
 (.block 0
  (.loop
   (.seq
   (.seq
   (.reg [⟨(some 31), none, .mov (.t 10)⟩,
    ⟨(some 32), none, .mov (.t 11)⟩,
    ⟨(some 33), none, .bin .lss (.t 31) (.t 32)⟩] [] false)
   (.cond (.t 33)
    .skip
    (.exit 0)))
   (.block 1
    (.seq
    (.reg [⟨(some 34), none, .mov (.t 10)⟩,
     ⟨(some 35), none, .mov (.t 11)⟩,
     ⟨(some 36), none, .bin .add (.t 34) (.t 35)⟩,
     ⟨(some 37), none, .conv .u64 (.t 36)⟩,
     ⟨(some 38), none, .bin .shr (.t 37) (.c (.int .u64 1))⟩,
     ⟨(some 39), none, .conv .i64 (.t 38)⟩,
     ⟨(some 12), none, .mov (.t 39)⟩] [] false)
    (.seq
    (.reg [⟨(some 40), none, .mov (.t 4)⟩,
     ⟨(some 41), none, .mov (.t 0)⟩,
     ⟨(some 42), none, .mov (.t 12)⟩,
     ⟨(some 43), none, .idx 1 (.t 41) (.t 42)⟩,
     ⟨(some 44), none, .load false 1 (.t 43)⟩,
     ⟨(some 45), none, .mov (.t 0)⟩,
     ⟨(some 46), none, .mov (.t 1)⟩,
     ⟨(some 47), none, .idx 1 (.t 45) (.t 46)⟩,
     ⟨(some 48), none, .load false 1 (.t 47)⟩,
     ⟨(some 49), none, .call (.t 40) [(.t 44), (.t 48)]⟩,
     ⟨(some 50), none, .bin .lss (.t 49) (.c (.int .i64 0))⟩] [] false)
    (.cond (.t 50)
     (.reg [⟨(some 51), none, .mov (.t 12)⟩,
      ⟨(some 52), none, .bin .add (.t 51) (.c (.int .i64 1))⟩,
      ⟨(some 10), none, .mov (.t 52)⟩] [] false)
     (.reg [⟨(some 53), none, .mov (.t 12)⟩,
      ⟨(some 11), none, .mov (.t 53)⟩] [] false))))))))
 (.seq
 (.seq
 (.reg [⟨(some 54), none, .mov (.t 1)⟩,
  ⟨(some 13), none, .mov (.t 54)⟩] [] false)
 (.block 2
  (.loop
   (.seq
   (.seq
   (.reg [⟨(some 55), none, .mov (.t 13)⟩,
    ⟨(some 56), none, .mov (.t 10)⟩,
    ⟨(some 57), none, .bin .sub (.t 56) (.c (.int .i64 1))⟩,
    ⟨(some 58), none, .bin .lss (.t 55) (.t 57)⟩] [] false)
   (.cond (.t 58)
    .skip
    (.exit 2)))
   (.seq
   (.block 3
    (.reg [⟨(some 61), none, .mov (.t 0)⟩,
     ⟨(some 62), none, .mov (.t 13)⟩,
     ⟨(some 63), none, .mov (.t 0)⟩,
     ⟨(some 64), none, .mov (.t 13)⟩,
     ⟨(some 65), none, .bin .add (.t 64) (.c (.int .i64 1))⟩,
     ⟨(some 66), none, .mov (.t 0)⟩,
     ⟨(some 67), none, .mov (.t 13)⟩,
     ⟨(some 68), none, .bin .add (.t 67) (.c (.int .i64 1))⟩,
     ⟨(some 69), none, .idx 1 (.t 66) (.t 68)⟩,
     ⟨(some 70), none, .load false 1 (.t 69)⟩,
     ⟨(some 71), none, .mov (.t 0)⟩,
     ⟨(some 72), none, .mov (.t 13)⟩,
     ⟨(some 73), none, .idx 1 (.t 71) (.t 72)⟩,
     ⟨(some 74), none, .load false 1 (.t 73)⟩,
     ⟨(some 75), none, .idx 1 (.t 61) (.t 62)⟩,
     ⟨none, none, .store 1 (.t 75) (.t 70)⟩,
     ⟨(some 76), none, .idx 1 (.t 63) (.t 65)⟩,
     ⟨none, none, .store 1 (.t 76) (.t 74)⟩] [] false))
   (.reg [⟨(some 59), none, .mov (.t 13)⟩,
    ⟨(some 60), none, .bin .add (.t 59) (.c (.int .i64 1))⟩,
    ⟨(some 13), none, .mov (.t 60)⟩] [] false))))))
 .ret))))
 .skip))
(.seq
(.seq
(.reg [⟨(some 77), none, .mov (.t 3)⟩,
 ⟨(some 78), none, .mov (.t 2)⟩,
 ⟨(some 79), none, .bin .sub (.t 77) (.t 78)⟩,
 ⟨(some 80), none, .bin .eql (.t 79) (.c (.int .i64 1))⟩] [] false)
(.cond (.t 80)
 (.seq
 (.reg [⟨(some 81), none, .mov (.t 1)⟩,
  ⟨(some 14), none, .mov (.t 81)⟩] [] false)
 (.seq
 (.reg [⟨(some 82), none, .mov (.t 2)⟩,
  ⟨(some 15), none, .mov (.t 82)⟩] [] false)
 (.seq
 (.block 4
  (.loop
   (.seq
   (.seq
   (.reg [⟨(some 83), none, .mov (.t 14)⟩,
    ⟨(some 84), none, .mov (.t 15)⟩,
    ⟨(some 85), none, .bin .lss (.t 83) (.t 84)⟩] [] false)
   (.cond (.t 85)
    .skip
    (.exit 4)))
   (.block 5
    (.seq
    (.reg [⟨(some 86), none, .mov (.t 14)⟩,
     ⟨(some 87), none, .mov (.t 15)⟩,
     ⟨(some 88), none, .bin .add (.t 86) (.t 87)⟩,
     ⟨(some 89), none, .conv .u64 (.t 88)⟩,
     ⟨(some 90), none, .bin .shr (.t 89) (.c (.int .u64 1))⟩,
     ⟨(some 91), none, .conv .i64 (.t 90)⟩,
     ⟨(some 16), none, .mov (.t 91)⟩] [] false)
    (.seq
    (.reg [⟨(some 92), none, .mov (.t 4)⟩,
     ⟨(some 93), none, .mov (.t 0)⟩,
     ⟨(some 94), none, .mov (.t 2)⟩,
     ⟨(some 95), none, .idx 1 (.t 93) (.t 94)⟩,
     ⟨(some 96), none, .load false 1 (.t 95)⟩,
     ⟨(some 97), none, .mov (.t 0)⟩,
     ⟨(some 98), none, .mov (.t 16)⟩,
     ⟨(some 99), none, .idx 1 (.t 97) (.t 98)⟩,
     ⟨(some 100), none, .load false 1 (.t 99)⟩,
     ⟨(some 101), none, .call (.t 92) [(.t 96), (.t 100)]⟩,
     ⟨(some 102), none, .bin .lss (.t 101) (.c (.int .i64 0))⟩,
     ⟨(some 103), none, .un .not (.t 102)⟩] [] false)
    (.cond (.t 103)
     (.reg [⟨(some 104), none, .mov (.t 16)⟩,
      ⟨(some 105), none, .bin .add (.t 104) (.c (.int .i64 1))⟩,
      ⟨(some 14), none, .mov (.t 105)⟩] [] false)
     (.reg [⟨(some 106), none, .mov (.t 16)⟩,
      ⟨(some 15), none, .mov (.t 106)⟩] [] false))))))))
 (.seq
 (.seq
 (.reg [⟨(some 107), none, .mov (.t 2)⟩,
  ⟨(some 17), none, .mov (.t 107)⟩] [] false)
 (.block 6
  (.loop
   (.seq
   (.seq
   (.reg [⟨(some 108), none, .mov (.t 17)⟩,
    ⟨(some 109), none, .mov (.t 14)⟩,
    ⟨(some 110), none, .bin .gtr (.t 108) (.t 109)⟩] [] false)
   (.cond (.t 110)
    .skip
    (.exit 6)))
   (.seq
   (.block 7
    (.reg [⟨(some 113), none, .mov (.t 0)⟩,
     ⟨(some 114), none, .mov (.t 17)⟩,
     ⟨(some 115), none, .mov (.t 0)⟩,
     ⟨(some 116), none, .mov (.t 17)⟩,
     ⟨(some 117), none, .bin .sub (.t 116) (.c (.int .i64 1))⟩,
     ⟨(some 118), none, .mov (.t 0)⟩,
     ⟨(some 119), none, .mov (.t 17)⟩,
     ⟨(some 120), none, .bin .sub (.t 119) (.c (.int .i64 1))⟩,
     ⟨(some 121), none, .idx 1 (.t 118) (.t 120)⟩,
     ⟨(some 122), none, .load false 1 (.t 121)⟩,
     ⟨(some 123), none, .mov (.t 0)⟩,
     ⟨(some 124), none, .mov (.t 17)⟩,
     ⟨(some 125), none, .idx 1 (.t 123) (.t 124)⟩,
     ⟨(some 126), none, .load false 1 (.t 125)⟩,
     ⟨(some 127), none, .idx 1 (.t 113) (.t 114)⟩,
     ⟨none, none, .store 1 (.t 127) (.t 122)⟩,
     ⟨(some 128), none, .idx 1 (.t 115) (.t 117)⟩,
     ⟨none, none, .store 1 (.t 128) (.t 126)⟩] [] false))
   (.reg [⟨(some 111), none, .mov (.t 17)⟩,
    ⟨(some 112), none, .bin .sub (.t 111) (.c (.int .i64 1))⟩,
    ⟨(some 17), none, .mov (.t 112)⟩] [] false))))))
 .ret))))
 .skip))
(.seq
(.reg [⟨(some 129), none, .mov (.t 1)⟩,
 ⟨(some 130), none, .mov (.t 3)⟩,
 ⟨(some 131), none, .bin .add (.t 129) (.t 130)⟩,
 ⟨(some 132), none, .conv .u64 (.t 131)⟩,
 ⟨(some 133), none, .bin .shr (.t 132) (.c (.int .u64 1))⟩,
 ⟨(some 134), none, .conv .i64 (.t 133)⟩,
 ⟨(some 18), none, .mov (.t 134)⟩] [] false)
(.seq
(.reg [⟨(some 135), none, .mov (.t 18)⟩,
 ⟨(some 136), none, .mov (.t 2)⟩,
 ⟨(some 137), none, .bin .add (.t 135) (.t 136)⟩,
 ⟨(some 19), none, .mov (.t 137)⟩] [] false)
(.seq
(.reg [⟨(some 20), none, .mov (.c (.int .i64 0))⟩,
 ⟨(some 21), none, .mov (.c (.int .i64 0))⟩] [] false)
(.seq
(.seq
(.reg [⟨(some 138), none, .mov (.t 2)⟩,
 ⟨(some 139), none, .mov (.t 18)⟩,
 ⟨(some 140), none, .bin .gtr (.t 138) (.t 139)⟩] [] false)
(.cond (.t 140)
 (.seq
 (.reg [⟨(some 141), none, .mov (.t 19)⟩,
  ⟨(some 142), none, .mov (.t 3)⟩,
  ⟨(some 143), none, .bin .sub (.t 141) (.t 142)⟩,
  ⟨(some 20), none, .mov (.t 143)⟩] [] false)
 (.reg [⟨(some 144), none, .mov (.t 18)⟩,
  ⟨(some 21), none, .mov (.t 144)⟩] [] false))
 (.seq
 (.reg [⟨(some 145), none, .mov (.t 1)⟩,
  ⟨(some 20), none, .mov (.t 145)⟩] [] false)
 (.reg [⟨(some 146), none, .mov (.t 2)⟩,
  ⟨(some 21), none, .mov (.t 146)⟩] [] false))))
(.seq
(.reg [⟨(some 147), none, .mov (.t 19)⟩,
 ⟨(some 148), none, .bin .sub (.t 147) (.c (.int .i64 1))⟩,
 ⟨(some 22), none, .mov (.t 148)⟩] [] false)
(.seq
(.block 8
 (.loop
  (.seq
  (.seq
  (.reg [⟨(some 149), none, .mov (.t 20)⟩,
   ⟨(some 150), none, .mov (.t 21)⟩,
   ⟨(some 151), none, .bin .lss (.t 149) (.t 150)⟩] [] false)
  (.cond (.t 151)
   .skip
   (.exit 8)))
  (.block 9
   (.seq
   (.reg [⟨(some 152), none, .mov (.t 20)⟩,
    ⟨(some 153), none, .mov (.t 21)⟩,
    ⟨(some 154), none, .bin .add (.t 152) (.t 153)⟩,
    ⟨(some 155), none, .conv .u64 (.t 154)⟩,
    ⟨(some 156), none, .bin .shr (.t 155) (.c (.int .u64 1))⟩,
    ⟨(some 157), none, .conv .i64 (.t 156)⟩,
    ⟨(some 23), none, .mov (.t 157)⟩] [] false)
   (.seq
   (.reg [⟨(some 158), none, .mov (.t 4)⟩,
    ⟨(some 159), none, .mov (.t 0)⟩,
    ⟨(some 160), none, .mov (.t 22)⟩,
    ⟨(some 161), none, .mov (.t 23)⟩,
    ⟨(some 162), none, .bin .sub (.t 160) (.t 161)⟩,
    ⟨(some 163), none, .idx 1 (.t 159) (.t 162)⟩,
    ⟨(some 164), none, .load false 1 (.t 163)⟩,
    ⟨(some 165), none, .mov (.t 0)⟩,
    ⟨(some 166), none, .mov (.t 23)⟩,
    ⟨(some 167), none, .idx 1 (.t 165) (.t 166)⟩,
    ⟨(some 168), none, .load false 1 (.t 167)⟩,
    ⟨(some 169), none, .call (.t 158) [(.t 164), (.t 168)]⟩,
    ⟨(some 170), none, .bin .lss (.t 169) (.c (.int .i64 0))⟩,
    ⟨(some 171), none, .un .not (.t 170)⟩] [] false)
   (.cond (.t 171)
    (.reg [⟨(some 172), none, .mov (.t 23)⟩,
     ⟨(some 173), none, .bin .add (.t 172) (.c (.int .i64 1))⟩,
     ⟨(some 20), none, .mov (.t 173)⟩] [] false)
    (.reg [⟨(some 174), none, .mov (.t 23)⟩,
     ⟨(some 21), none, .mov (.t 174)⟩] [] false))))))))
(.seq
(.reg [⟨(some 175), none, .mov (.t 19)⟩,
 ⟨(some 176), none, .mov (.t 20)⟩,
 ⟨(some 177), none, .bin .sub (.t 175) (.t 176)⟩,
 ⟨(some 24), none, .mov (.t 177)⟩] [] false)
(.seq
(.seq
(.reg [⟨(some 178), none, .mov (.t 20)⟩,
 ⟨(some 179), none, .mov (.t 2)⟩,
 ⟨(some 180), none, .bin .lss (.t 178) (.t 179)⟩,
 ⟨(some 181), none, .mov (.t 180)⟩,
 ⟨(some 182), (some (181, true)), .mov (.t 2)⟩,
 ⟨(some 183), (some (181, true)), .mov (.t 24)⟩,
 ⟨(some 184), (some (181, true)), .bin .lss (.t 182) (.t 183)⟩,
 ⟨(some 185), none, .pick (.t 181) (.t 184) (.c (.bool false))⟩] [] false)
(.cond (.t 185)
 (.reg [⟨(some 186), none, .mov (.t 0)⟩,
  ⟨(some 187), none, .mov (.t 20)⟩,
  ⟨(some 188), none, .mov (.t 2)⟩,
  ⟨(some 189), none, .mov (.t 24)⟩,
  ⟨(some 190), none, .mov (.t 4)⟩,
  ⟨(some 191), none, .call (.c (.fn 303 [] [])) [(.t 186), (.t 187), (.t 188), (.t 189), (.t 190)]⟩] [] false)
 .skip))
(.seq
(.seq
(.reg [⟨(some 192), none, .mov (.t 1)⟩,
 ⟨(some 193), none, .mov (.t 20)⟩,
 ⟨(some 194), none, .bin .lss (.t 192) (.t 193)⟩,
 ⟨(some 195), none, .mov (.t 194)⟩,
 ⟨(some 196), (some (195, true)), .mov (.t 20)⟩,
 ⟨(some 197), (some (195, true)), .mov (.t 18)⟩,
 ⟨(some 198), (some (195, true)), .bin .lss (.t 196) (.t 197)⟩,
 ⟨(some 199), none, .pick (.t 195) (.t 198) (.c (.bool false))⟩] [] false)
(.cond (.t 199)
 (.reg [⟨(some 200), none, .mov (.t 0)⟩,
  ⟨(some 201), none, .mov (.t 1)⟩,
  ⟨(some 202), none, .mov (.t 20)⟩,
  ⟨(some 203), none, .mov (.t 18)⟩,
  ⟨(some 204), none, .mov (.t 4)⟩,
  ⟨(some 205), none, .call (.c (.fn 286 [] [])) [(.t 200), (.t 201), (.t 202), (.t 203), (.t 204)]⟩] [] false)
 .skip))
(.seq
(.reg [⟨(some 206), none, .mov (.t 18)⟩,
 ⟨(some 207), none, .mov (.t 24)⟩,
 ⟨(some 208), none, .bin .lss (.t 206) (.t 207)⟩,
 ⟨(some 209), none, .mov (.t 208)⟩,
 ⟨(some 210), (some (209, true)), .mov (.t 24)⟩,
 ⟨(some 211), (some (209, true)), .mov (.t 3)⟩,
 ⟨(some 212), (some (209, true)), .bin .lss (.t 210) (.t 211)⟩,
 ⟨(some 213), none, .pick (.t 209) (.t 212) (.c (.bool false))⟩] [] false)
(.cond (.t 213)
 (.reg [⟨(some 214), none, .mov (.t 0)⟩,
  ⟨(some 215), none, .mov (.t 18)⟩,
  ⟨(some 216), none, .mov (.t 24)⟩,
  ⟨(some 217), none, .mov (.t 3)⟩,
  ⟨(some 218), none, .mov (.t 4)⟩,
  ⟨(some 219), none, .call (.c (.fn 286 [] [])) [(.t 214), (.t 215), (.t 216), (.t 217), (.t 218)]⟩] [] false)
 .skip)))))))))))))⟩
-- 292 slices.Compact[[]int,int]
def n_slices_Compact_int : Nat := 292
def af_slices_Compact_int : AF := ⟨61, [.tmp 2],
(.seq
(.reg [⟨(some 2), none, .mov (.c (.sl true []))⟩] [] false)
(.seq
(.seq
(.reg [⟨(some 6), none, .mov (.t 0)⟩,
 ⟨(some 7), none, .len (.t 6)⟩,
 ⟨(some 8), none, .bin .lss (.t 7) (.c (.int .i64 2))⟩] [] false)
(.cond (.t 8)
 (.seq
 (.reg [⟨(some 9), none, .mov (.t 0)⟩,
  ⟨(some 2), none, .mov (.t 9)⟩] [] false)
 .ret)
 .skip))
(.seq
(.seq
(.reg [⟨(some 3), none, .mov (.c (.int .i64 1))⟩] [] false)
(.block 0
 (.loop
  (.seq
  (.seq
  (.reg [⟨(some 10), none, .mov (.t 3)⟩,
   ⟨(some 11), none, .mov (.t 0)⟩,
   ⟨(some 12), none, .len (.t 11)⟩,
   ⟨(some 13), none, .bin .lss (.t 10) (.t 12)⟩] [] false)
  (.cond (.t 13)
   .skip
   (.exit 0)))
  (.seq
  (.block 1
   (.seq
   (.reg [⟨(some 16), none, .mov (.t 0)⟩,
    ⟨(some 17), none, .mov (.t 3)⟩,
    ⟨(some 18), none, .idx 1 (.t 16) (.t 17)⟩,
    ⟨(some 19), none, .load false 1 (.t 18)⟩,
    ⟨(some 20), none, .mov (.t 0)⟩,
    ⟨(some 21), none, .mov (.t 3)⟩,
    ⟨(some 22), none, .bin .sub (.t 21) (.c (.int .i64 1))⟩,
    ⟨(some 23), none, .idx 1 (.t 20) (.t 22)⟩,
    ⟨(some 24), none, .load false 1 (.t 23)⟩,
    ⟨(some 25), none, .bin .eql (.t 19) (.t 24)⟩] [] false)
   (.cond (.t 25)
    (.seq
    (.reg [⟨(some 26), none, .mov (.t 0)⟩,
     ⟨(some 27), none, .mov (.t 3)⟩,
     ⟨(some 28), none, .slc 1 (.t 26) (some (.t 27)) none none⟩,
     ⟨(some 4), none, .mov (.t 28)⟩] [] false)
    (.seq
    (.seq
    (.reg [⟨(some 5), none, .mov (.c (.int .i64 1))⟩] [] false)
    (.block 2
     (.loop
      (.seq
      (.seq
      (.reg [⟨(some 29), none, .mov (.t 5)⟩,
       ⟨(some 30), none, .mov (.t 4)⟩,
       ⟨(some 31), none, .len (.t 30)⟩,
       ⟨(some 32), none, .bin .lss (.t 29) (.t 31)⟩] [] false)
      (.cond (.t 32)
       .skip
       (.exit 2)))
      (.seq
      (.block 3
       (.seq
       (.reg [⟨(some 35), none, .mov (.t 4)⟩,
        ⟨(some 36), none, .mov (.t 5)⟩,
        ⟨(some 37), none, .idx 1 (.t 35) (.t 36)⟩,
        ⟨(some 38), none, .load false 1 (.t 37)⟩,
        ⟨(some 39), none, .mov (.t 4)⟩,
        ⟨(some 40), none, .mov (.t 5)⟩,
        ⟨(some 41), none, .bin .sub (.t 40) (.c (.int .i64 1))⟩,
        ⟨(some 42), none, .idx 1 (.t 39) (.t 41)⟩,
        ⟨(some 43), none, .load false 1 (.t 42)⟩,
        ⟨(some 44), none, .bin .neq (.t 38) (.t 43)⟩] [] false)
       (.cond (.t 44)
        (.seq
        (.reg [⟨(some 45), none, .mov (.t 0)⟩,
         ⟨(some 46), none, .mov (.t 3)⟩,
         ⟨(some 47), none, .mov (.t 4)⟩,
         ⟨(some 48), none, .mov (.t 5)⟩,
         ⟨(some 49), none, .idx 1 (.t 47) (.t 48)⟩,
         ⟨(some 50), none, .load false 1 (.t 49)⟩,
         ⟨(some 51), none, .idx 1 (.t 45) (.t 46)⟩,
         ⟨none, none, .store 1 (.t 51) (.t 50)⟩] [] false)
        (.reg [⟨(some 52), none, .mov (.t 3)⟩,
         ⟨(some 53), none, .bin .add (.t 52) (.c (.int .i64 1))⟩,
         ⟨(some 3), none, .mov (.t 53)⟩] [] false))
        .skip)))
      (.reg [⟨(some 33), none, .mov (.t 5)⟩,
       ⟨(some 34), none, .bin .add (.t 33) (.c (.int .i64 1))⟩,
       ⟨(some 5), none, .mov (.t 34)⟩] [] false))))))
    (.seq
    (.reg [⟨(some 54), none, .mov (.t 0)⟩,
     ⟨(some 55), none, .mov (.t 3)⟩,
     ⟨(some 56), none, .slc 1 (.t 54) (some (.t 55)) none none⟩,
     ⟨none, none, .clr 3 (.int .i64 0) (.t 56)⟩] [] false)
    (.seq
    (.reg [⟨(some 57), none, .mov (.t 0)⟩,
     ⟨(some 58), none, .mov (.t 3)⟩,
     ⟨(some 59), none, .slc 1 (.t 57) none (some (.t 58)) none⟩,
     ⟨(some 2), none, .mov (.t 59)⟩] [] false)
    .ret))))
    .skip)))
  (.reg [⟨(some 14), none, .mov (.t 3)⟩,
   ⟨(some 15), none, .bin .add (.t 14) (.c (.int .i64 1))⟩,
   ⟨(some 3), none, .mov (.t 15)⟩] [] false))))))
(.seq
(.reg [⟨(some 60), none, .mov (.t 0)⟩,
 ⟨(some 2), none, .mov (.t 60)⟩] [] false)
.ret))))⟩
-- 295 topiary/topiaryref11.point
def n_ref11_point : Nat := 295
def af_ref11_point : AF := ⟨17, [.tmp 2],
(.seq
(.reg [⟨(some 2), none, .mov (.c (.bool false))⟩] [] false)
(.seq
(.reg [⟨(some 3), none, .mov (.t 0)⟩,
 ⟨(some 4), none, .bin .geq (.t 3) (.c (.int .i64 0))⟩,
 ⟨(some 5), none, .mov (.t 4)⟩,
 ⟨(some 6), (some (5, true)), .mov (.t 0)⟩,
 ⟨(some 7), (some (5, true)), .bin .leq (.t 6) (.c (.int .i64 1114111))⟩,
 ⟨(some 8), none, .pick (.t 5) (.t 7) (.c (.bool false))⟩,
 ⟨(some 9), none, .mov (.t 8)⟩,
 ⟨(some 10), (some (9, true)), .mov (.t 0)⟩,
 ⟨(some 11), (some (9, true)), .bin .lss (.t 10) (.c (.int .i64 55296))⟩,
 ⟨(some 12), (some (9, true)), .mov (.t 11)⟩,
 ⟨(some 13), (some (12, false)), .mov (.t 0)⟩,
 ⟨(some 14), (some (12, false)), .bin .gtr (.t 13) (.c (.int .i64 57343))⟩,
 ⟨(some 15), (some (9, true)), .pick (.t 12) (.c (.bool true)) (.t 14)⟩,
 ⟨(some 16), none, .pick (.t 9) (.t 15) (.c (.bool false))⟩,
 ⟨(some 2), none, .mov (.t 16)⟩] [] false)
.ret))⟩
-- 296 topiary/topiaryref11.begins
def n_ref11_begins : Nat := 296
def af_ref11_begins : AF := ⟨35, [.tmp 6],
(.seq
(.reg [⟨(some 6), none, .mov (.c (.bool false))⟩] [] false)
(.seq
(.reg [⟨(some 7), none, .mov (.t 1)⟩,
 ⟨(some 8), none, .bin .geq (.t 7) (.c (.int .i64 0))⟩,
 ⟨(some 9), none, .mov (.t 8)⟩,
 ⟨(some 10), (some (9, true)), .mov (.t 1)⟩,
 ⟨(some 11), (some (9, true)), .mov (.t 0)⟩,
 ⟨(some 12), (some (9, true)), .slen (.t 11)⟩,
 ⟨(some 13), (some (9, true)), .bin .leq (.t 10) (.t 12)⟩,
 ⟨(some 14), none, .pick (.t 9) (.t 13) (.c (.bool false))⟩,
 ⟨(some 15), none, .mov (.t 14)⟩,
 ⟨(some 16), (some (15, true)), .mov (.t 0)⟩,
 ⟨(some 17), (some (15, true)), .slen (.t 16)⟩,
 ⟨(some 18), (some (15, true)), .mov (.t 1)⟩,
 ⟨(some 19), (some (15, true)), .bin .sub (.t 17) (.t 18)⟩,
 ⟨(some 20), (some (15, true)), .mov (.t 2)⟩,
 ⟨(some 21), (some (15, true)), .slen (.t 20)⟩,
 ⟨(some 22), (some (15, true)), .bin .geq (.t 19) (.t 21)⟩,
 ⟨(some 23), none, .pick (.t 15) (.t 22) (.c (.bool false))⟩,
 ⟨(some 24), none, .mov (.t 23)⟩,
 ⟨(some 25), (some (24, true)), .mov (.t 0)⟩,
 ⟨(some 26), (some (24, true)), .mov (.t 1)⟩,
 ⟨(some 27), (some (24, true)), .mov (.t 1)⟩,
 ⟨(some 28), (some (24, true)), .mov (.t 2)⟩,
 ⟨(some 29), (some (24, true)), .slen (.t 28)⟩,
 ⟨(some 30), (some (24, true)), .bin .add (.t 27) (.t 29)⟩,
 ⟨(some 31), (some (24, true)), .slc 0 (.t 25) (some (.t 26)) (some (.t 30)) none⟩,
 ⟨(some 32), (some (24, true)), .mov (.t 2)⟩,
 ⟨(some 33), (some (24, true)), .bin .eql (.t 31) (.t 32)⟩,
 ⟨(some 34), none, .pick (.t 24) (.t 33) (.c (.bool false))⟩,
 ⟨(some 6), none, .mov (.t 34)⟩] [] false)
.ret))⟩
-- 297 topiary/topiaryref11.number
def n_ref11_number : Nat := 297
def af_ref11_number : AF := ⟨70, [.tmp 6, .tmp 7],
(.seq
(.reg [⟨(some 6), none, .mov (.c (.int .i64 0))⟩,
 ⟨(some 7), none, .mov (.c (.int .i64 0))⟩] [] false)
(.seq
(.reg [⟨(some 8), none, .mov (.c (.int .i64 0))⟩] [] false)
(.seq
(.seq
(.reg [⟨(some 9), none, .mov (.c (.int .i64 0))⟩] [] false)
(.block 0
 (.loop
  (.seq
  (.seq
  (.reg [⟨(some 12), none, .mov (.t 9)⟩,
   ⟨(some 13), none, .bin .leq (.t 12) (.c (.int .i64 8))⟩] [] false)
  (.cond (.t 13)
   .skip
   (.exit 0)))
  (.seq
  (.block 1
   (.seq
   (.seq
   (.reg [⟨(some 16), none, .mov (.t 1)⟩,
    ⟨(some 17), none, .mov (.t 9)⟩,
    ⟨(some 18), none, .bin .add (.t 16) (.t 17)⟩,
    ⟨(some 19), none, .mov (.t 0)⟩,
    ⟨(some 20), none, .slen (.t 19)⟩,
    ⟨(some 21), none, .bin .geq (.t 18) (.t 20)⟩] [] false)
   (.cond (.t 21)
    (.seq
    (.reg [⟨(some 6), none, .mov (.c (.int .i64 0))⟩,
     ⟨(some 7), none, .mov (.c (.int .i64 0))⟩] [] false)
    .ret)
    .skip))
   (.seq
   (.reg [⟨(some 22), none, .mov (.t 0)⟩,
    ⟨(some 23), none, .mov (.t 1)⟩,
    ⟨(some 24), none, .mov (.t 9)⟩,
    ⟨(some 25), none, .bin .add (.t 23) (.t 24)⟩,
    ⟨(some 26), none, .sidx (.t 22) (.t 25)⟩,
    ⟨(some 27), none, .conv .i64 (.t 26)⟩,
    ⟨(some 10), none, .mov (.t 27)⟩] [] false)
   (.seq
   (.seq
   (.reg [⟨(some 28), none, .mov (.t 10)⟩,
    ⟨(some 29), none, .bin .eql (.t 28) (.c (.int .i64 59))⟩,
    ⟨(some 30), none, .mov (.t 29)⟩,
    ⟨(some 31), (some (30, true)), .mov (.t 9)⟩,
    ⟨(some 32), (some (30, true)), .bin .gtr (.t 31) (.c (.int .i64 0))⟩,
    ⟨(some 33), none, .pick (.t 30) (.t 32) (.c (.bool false))⟩] [] false)
   (.cond (.t 33)
    (.seq
    (.reg [⟨(some 34), none, .mov (.t 8)⟩,
     ⟨(some 35), none, .mov (.t 9)⟩,
     ⟨(some 6), none, .mov (.t 34)⟩,
     ⟨(some 7), none, .mov (.t 35)⟩] [] false)
    .ret)
    .skip))
   (.seq
   (.reg [⟨(some 11), none, .mov (.c (.int .i64 99))⟩] [] false)
   (.seq
   (.seq
   (.reg [⟨(some 36), none, .mov (.t 10)⟩,
    ⟨(some 37), none, .bin .geq (.t 36) (.c (.int .i64 48))⟩,
    ⟨(some 38), none, .mov (.t 37)⟩,
    ⟨(some 39), (some (38, true)), .mov (.t 10)⟩,
    ⟨(some 40), (some (38, true)), .bin .leq (.t 39) (.c (.int .i64 57))⟩,
    ⟨(some 41), none, .pick (.t 38) (.t 40) (.c (.bool false))⟩] [] false)
   (.cond (.t 41)
    (.reg [⟨(some 42), none, .mov (.t 10)⟩,
     ⟨(some 43), none, .bin .sub (.t 42) (.c (.int .i64 48))⟩,
     ⟨(some 11), none, .mov (.t 43)⟩] [] false)
    .skip))
   (.seq
   (.seq
   (.reg [⟨(some 44), none, .mov (.t 10)⟩,
    ⟨(some 45), none, .bin .geq (.t 44) (.c (.int .i64 97))⟩,
    ⟨(some 46), none, .mov (.t 45)⟩,
    ⟨(some 47), (some (46, true)), .mov (.t 10)⟩,
    ⟨(some 48), (some (46, true)), .bin .leq (.t 47) (.c (.int .i64 102))⟩,
    ⟨(some 49), none, .pick (.t 46) (.t 48) (.c (.bool false))⟩] [] false)
   (.cond (.t 49)
    (.reg [⟨(some 50), none, .mov (.t 10)⟩,
     ⟨(some 51), none, .bin .sub (.t 50) (.c (.int .i64 97))⟩,
     ⟨(some 52), none, .bin .add (.t 51) (.c (.int .i64 10))⟩,
     ⟨(some 11), none, .mov (.t 52)⟩] [] false)
    .skip))
   (.seq
   (.seq
   (.reg [⟨(some 53), none, .mov (.t 10)⟩,
    ⟨(some 54), none, .bin .geq (.t 53) (.c (.int .i64 65))⟩,
    ⟨(some 55), none, .mov (.t 54)⟩,
    ⟨(some 56), (some (55, true)), .mov (.t 10)⟩,
    ⟨(some 57), (some (55, true)), .bin .leq (.t 56) (.c (.int .i64 70))⟩,
    ⟨(some 58), none, .pick (.t 55) (.t 57) (.c (.bool false))⟩] [] false)
   (.cond (.t 58)
    (.reg [⟨(some 59), none, .mov (.t 10)⟩,
     ⟨(some 60), none, .bin .sub (.t 59) (.c (.int .i64 65))⟩,
     ⟨(some 61), none, .bin .add (.t 60) (.c (.int .i64 10))⟩,
     ⟨(some 11), none, .mov (.t 61)⟩] [] false)
    .skip))
   (.seq
   (.seq
   (.reg [⟨(some 62), none, .mov (.t 11)⟩,
    ⟨(some 63), none, .mov (.t 2)⟩,
    ⟨(some 64), none, .bin .geq (.t 62) (.t 63)⟩] [] false)
   (.cond (.t 64)
    (.seq
    (.reg [⟨(some 6), none, .mov (.c (.int .i64 0))⟩,
     ⟨(some 7), none, .mov (.c (.int .i64 0))⟩] [] false)
    .ret)
    .skip))
   (.reg [⟨(some 65), none, .mov (.t 8)⟩,
    ⟨(some 66), none, .mov (.t 2)⟩,
    ⟨(some 67), none, .bin .mul (.t 65) (.t 66)⟩,
    ⟨(some 68), none, .mov (.t 11)⟩,
    ⟨(some 69), none, .bin .add (.t 67) (.t 68)⟩,
    ⟨(some 8), none, .mov (.t 69)⟩] [] false))))))))))
  (.reg [⟨(some 14), none, .mov (.t 9)⟩,
   ⟨(some 15), none, .bin .add (.t 14) (.c (.int .i64 1))⟩,
   ⟨(some 9), none, .mov (.t 15)⟩] [] false))))))
(.seq
(.reg [⟨(some 6), none, .mov (.c (.int .i64 0))⟩,
 ⟨(some 7), none, .mov (.c (.int .i64 0))⟩] [] false)
.ret))))⟩
-- 298 topiary/order.buckets$1
def n_order_buckets_1 : Nat := 298
def af_order_buckets_1 : AF := ⟨20, [],
(.seq
(.reg [⟨(some 6), none, .load false 1 (.t 1)⟩,
 ⟨(some 7), none, .len (.t 6)⟩,
 ⟨(some 8), none, .mov (.c (.int .i64 0))⟩] [] false)
(.block 0
 (.loop
  (.seq
  (.reg [⟨(some 9), none, .bin .lss (.t 8) (.t 7)⟩] [] false)
  (.seq
  (.cond (.t 9)
   .skip
   (.exit 0))
  (.seq
  (.block 1
   (.seq
   (.reg [⟨(some 10), none, .idx 1 (.t 6) (.t 8)⟩,
    ⟨(some 11), none, .load false 1 (.t 10)⟩,
    ⟨(some 5), none, .mov (.t 11)⟩] [] false)
   (.reg [⟨(some 12), none, .mov (.t 0)⟩,
    ⟨(some 13), none, .load false 1 (.t 2)⟩,
    ⟨(some 14), none, .mov (.t 5)⟩,
    ⟨(some 15), none, .idx 1 (.t 13) (.t 14)⟩,
    ⟨(some 16), none, .load false 1 (.t 15)⟩,
    ⟨(some 17), none, .mov (.t 5)⟩,
    ⟨(some 18), none, .call (.t 12) [(.t 16), (.t 17)]⟩] [] false)))
  (.reg [⟨(some 19), none, .bin .add (.t 8) (.c (.int .i64 1))⟩,
   ⟨(some 8), none, .mov (.t 19)⟩] [] false)))))))⟩
-- 299 topiary/order.buckets$2
def n_order_buckets_2 : Nat := 299
def af_order_buckets_2 : AF := ⟨12, [],
(.reg [⟨(some 5), none, .load false 1 (.t 2)⟩,
 ⟨(some 6), none, .mov (.t 0)⟩,
 ⟨(some 7), none, .bin .add (.t 6) (.c (.int .i64 1))⟩,
 ⟨(some 8), none, .idx 1 (.t 5) (.t 7)⟩,
 ⟨(some 9), none, .load false 1 (.t 8)⟩,
 ⟨(some 10), none, .bin .add (.t 9) (.c (.int .i64 1))⟩,
 ⟨(some 11), none, .idx 1 (.t 5) (.t 7)⟩,
 ⟨none, none, .store 1 (.t 11) (.t 10)⟩] [] false)⟩
-- 300 topiary/order.buckets$3
def n_order_buckets_3 : Nat := 300
def af_order_buckets_3 : AF := ⟨19, [],
(.seq
(.reg [⟨(some 6), none, .load false 1 (.t 2)⟩,
 ⟨(some 7), none, .load false 1 (.t 3)⟩,
 ⟨(some 8), none, .mov (.t 0)⟩,
 ⟨(some 9), none, .idx 1 (.t 7) (.t 8)⟩,
 ⟨(some 10), none, .load false 1 (.t 9)⟩,
 ⟨(some 11), none, .mov (.t 1)⟩,
 ⟨(some 12), none, .idx 1 (.t 6) (.t 10)⟩,
 ⟨none, none, .store 1 (.t 12) (.t 11)⟩] [] false)
(.reg [⟨(some 13), none, .load false 1 (.t 3)⟩,
 ⟨(some 14), none, .mov (.t 0)⟩,
 ⟨(some 15), none, .idx 1 (.t 13) (.t 14)⟩,
 ⟨(some 16), none, .load false 1 (.t 15)⟩,
 ⟨(some 17), none, .bin .add (.t 16) (.c (.int .i64 1))⟩,
 ⟨(some 18), none, .idx 1 (.t 13) (.t 14)⟩,
 ⟨none, none, .store 1 (.t 18) (.t 17)⟩] [] false))⟩
-- 301 slices.BinarySearch[[]int,int]
def n_slices_BinarySearch_int : Nat := 301
def af_slices_BinarySearch_int : AF := ⟨54, [.tmp 4, .tmp 5],
(.seq
(.reg [⟨(some 4), none, .mov (.c (.int .i64 0))⟩,
 ⟨(some 5), none, .mov (.c (.bool false))⟩] [] false)
(.seq
(.reg [⟨(some 10), none, .mov (.t 0)⟩,
 ⟨(some 11), none, .len (.t 10)⟩,
 ⟨(some 6), none, .mov (.t 11)⟩] [] false)
(.seq
(.reg [⟨(some 12), none, .mov (.t 6)⟩,
 ⟨(some 7), none, .mov (.c (.int .i64 0))⟩,
 ⟨(some 8), none, .mov (.t 12)⟩] [] false)
(.seq
(.block 0
 (.loop
  (.seq
  (.seq
  (.reg [⟨(some 13), none, .mov (.t 7)⟩,
   ⟨(some 14), none, .mov (.t 8)⟩,
   ⟨(some 15), none, .bin .lss (.t 13) (.t 14)⟩] [] false)
  (.cond (.t 15)
   .skip
   (.exit 0)))
  (.block 1
   (.seq
   (.reg [⟨(some 16), none, .mov (.t 7)⟩,
    ⟨(some 17), none, .mov (.t 8)⟩,
    ⟨(some 18), none, .bin .add (.t 16) (.t 17)⟩,
    ⟨(some 19), none, .conv .u64 (.t 18)⟩,
    ⟨(some 20), none, .bin .shr (.t 19) (.c (.int .u64 1))⟩,
    ⟨(some 21), none, .conv .i64 (.t 20)⟩,
    ⟨(some 9), none, .mov (.t 21)⟩] [] false)
   (.seq
   (.reg [⟨(some 22), none, .mov (.t 0)⟩,
    ⟨(some 23), none, .mov (.t 9)⟩,
    ⟨(some 24), none, .idx 1 (.t 22) (.t 23)⟩,
    ⟨(some 25), none, .load false 1 (.t 24)⟩,
    ⟨(some 26), none, .mov (.t 1)⟩,
    ⟨(some 27), none, .call (.c (.fn 164 [] [])) [(.t 25), (.t 26)]⟩] [] false)
   (.cond (.t 27)
    (.reg [⟨(some 28), none, .mov (.t 9)⟩,
     ⟨(some 29), none, .bin .add (.t 28) (.c (.int .i64 1))⟩,
     ⟨(some 7), none, .mov (.t 29)⟩] [] false)
    (.reg [⟨(some 30), none, .mov (.t 9)⟩,
     ⟨(some 8), none, .mov (.t 30)⟩] [] false))))))))
(.seq
(.reg [⟨(some 31), none, .mov (.t 7)⟩,
 ⟨(some 32), none, .mov (.t 7)⟩,
 ⟨(some 33), none, .mov (.t 6)⟩,
 ⟨(some 34), none, .bin .lss (.t 32) (.t 33)⟩,
 ⟨(some 35), none, .mov (.t 34)⟩,
 ⟨(some 36), (some (35, true)), .mov (.t 0)⟩,
 ⟨(some 37), (some (35, true)), .mov (.t 7)⟩,
 ⟨(some 38), (some (35, true)), .idx 1 (.t 36) (.t 37)⟩,
 ⟨(some 39), (some (35, true)), .load false 1 (.t 38)⟩,
 ⟨(some 40), (some (35, true)), .mov (.t 1)⟩,
 ⟨(some 41), (some (35, true)), .bin .eql (.t 39) (.t 40)⟩,
 ⟨(some 42), (some (35, true)), .mov (.t 41)⟩,
 ⟨(some 43), (some (42, false)), .mov (.t 0)⟩,
 ⟨(some 44), (some (42, false)), .mov (.t 7)⟩,
 ⟨(some 45), (some (42, false)), .idx 1 (.t 43) (.t 44)⟩,
 ⟨(some 46), (some (42, false)), .load false 1 (.t 45)⟩,
 ⟨(some 47), (some (42, false)), .call (.c (.fn 309 [] [])) [(.t 46)]⟩,
 ⟨(some 48), (some (42, false)), .mov (.t 47)⟩,
 ⟨(some 49), (some (48, true)), .mov (.t 1)⟩,
 ⟨(some 50), (some (48, true)), .call (.c (.fn 309 [] [])) [(.t 49)]⟩,
 ⟨(some 51), (some (42, false)), .pick (.t 48) (.t 50) (.c (.bool false))⟩,
 ⟨(some 52), (some (35, true)), .pick (.t 42) (.c (.bool true)) (.t 51)⟩,
 ⟨(some 53), none, .pick (.t 35) (.t 52) (.c (.bool false))⟩,
 ⟨(some 4), none, .mov (.t 31)⟩,
 ⟨(some 5), none, .mov (.t 53)⟩] [] false)
.ret)))))⟩
-- 302 slices.order2Ordered[int]
def n_slices_order2Ordered_int : Nat := 302
def af_slices_order2Ordered_int : AF := ⟨28, [.tmp 8, .tmp 9],
(.seq
(.reg [⟨(some 8), none, .mov (.c (.int .i64 0))⟩,
 ⟨(some 9), none, .mov (.c (.int .i64 0))⟩] [] false)
(.seq
(.seq
(.reg [⟨(some 10), none, .mov (.t 0)⟩,
 ⟨(some 11), none, .mov (.t 2)⟩,
 ⟨(some 12), none, .idx 1 (.t 10) (.t 11)⟩,
 ⟨(some 13), none, .load false 1 (.t 12)⟩,
 ⟨(some 14), none, .mov (.t 0)⟩,
 ⟨(some 15), none, .mov (.t 1)⟩,
 ⟨(some 16), none, .idx 1 (.t 14) (.t 15)⟩,
 ⟨(some 17), none, .load false 1 (.t 16)⟩,
 ⟨(some 18), none, .call (.c (.fn 164 [] [])) [(.t 13), (.t 17)]⟩] [] false)
(.cond (.t 18)
 (.seq
 (.reg [⟨(some 19), none, .mov (.t 3)⟩,
  ⟨(some 20), none, .nck (.t 19)⟩,
  ⟨(some 21), none, .load false 1 (.t 20)⟩,
  ⟨(some 22), none, .bin .add (.t 21) (.c (.int .i64 1))⟩,
  ⟨(some 23), none, .nck (.t 19)⟩,
  ⟨none, none, .store 1 (.t 23) (.t 22)⟩] [] false)
 (.seq
 (.reg [⟨(some 24), none, .mov (.t 2)⟩,
  ⟨(some 25), none, .mov (.t 1)⟩,
  ⟨(some 8), none, .mov (.t 24)⟩,
  ⟨(some 9), none, .mov (.t 25)⟩] [] false)
 .ret))
 .skip))
(.seq
(.reg [⟨(some 26), none, .mov (.t 1)⟩,
 ⟨(some 27), none, .mov (.t 2)⟩,
 ⟨(some 8), none, .mov (.t 26)⟩,
 ⟨(some 9), none, .mov (.t 27)⟩] [] false)
.ret)))⟩
-- 303 slices.rotateCmpFunc[int]
def n_slices_rotateCmpFunc_int : Nat := 303
def af_slices_rotateCmpFunc_int : AF := ⟨58, [],
(.seq
(.reg [⟨(some 12), none, .mov (.t 2)⟩,
 ⟨(some 13), none, .mov (.t 1)⟩,
 ⟨(some 14), none, .bin .sub (.t 12) (.t 13)⟩,
 ⟨(some 10), none, .mov (.t 14)⟩] [] false)
(.seq
(.reg [⟨(some 15), none, .mov (.t 3)⟩,
 ⟨(some 16), none, .mov (.t 2)⟩,
 ⟨(some 17), none, .bin .sub (.t 15) (.t 16)⟩,
 ⟨(some 11), none, .mov (.t 17)⟩] [] false)
(.seq
(.block 0
 (.loop
  (.seq
  (.seq
  (.reg [⟨(some 18), none, .mov (.t 10)⟩,
   ⟨(some 19), none, .mov (.t 11)⟩,
   ⟨(some 20), none, .bin .neq (.t 18) (.t 19)⟩] [] false)
  (.cond (.t 20)
   .skip
   (.exit 0)))
  (.block 1
   (.seq
   (.reg [⟨(some 21), none, .mov (.t 10)⟩,
    ⟨(some 22), none, .mov (.t 11)⟩,
    ⟨(some 23), none, .bin .gtr (.t 21) (.t 22)⟩] [] false)
   (.cond (.t 23)
    (.seq
    (.reg [⟨(some 24), none, .mov (.t 0)⟩,
     ⟨(some 25), none, .mov (.t 2)⟩,
     ⟨(some 26), none, .mov (.t 10)⟩,
     ⟨(some 27), none, .bin .sub (.t 25) (.t 26)⟩,
     ⟨(some 28), none, .mov (.t 2)⟩,
     ⟨(some 29), none, .mov (.t 11)⟩,
     ⟨(some 30), none, .mov (.t 4)⟩,
     ⟨(some 31), none, .call (.c (.fn 310 [] [])) [(.t 24), (.t 27), (.t 28), (.t 29), (.t 30)]⟩] [] false)
    (.reg [⟨(some 32), none, .mov (.t 10)⟩,
     ⟨(some 33), none, .mov (.t 11)⟩,
     ⟨(some 34), none, .bin .sub (.t 32) (.t 33)⟩,
     ⟨(some 10), none, .mov (.t 34)⟩] [] false))
    (.seq
    (.reg [⟨(some 35), none, .mov (.t 0)⟩,
     ⟨(some 36), none, .mov (.t 2)⟩,
     ⟨(some 37), none, .mov (.t 10)⟩,
     ⟨(some 38), none, .bin .sub (.t 36) (.t 37)⟩,
     ⟨(some 39), none, .mov (.t 2)⟩,
     ⟨(some 40), none, .mov (.t 11)⟩,
     ⟨(some 41), none, .bin .add (.t 39) (.t 40)⟩,
     ⟨(some 42), none, .mov (.t 10)⟩,
     ⟨(some 43), none, .bin .sub (.t 41) (.t 42)⟩,
     ⟨(some 44), none, .mov (.t 10)⟩,
     ⟨(some 45), none, .mov (.t 4)⟩,
     ⟨(some 46), none, .call (.c (.fn 310 [] [])) [(.t 35), (.t 38), (.t 43), (.t 44), (.t 45)]⟩] [] false)
    (.reg [⟨(some 47), none, .mov (.t 11)⟩,
     ⟨(some 48), none, .mov (.t 10)⟩,
     ⟨(some 49), none, .bin .sub (.t 47) (.t 48)⟩,
     ⟨(some 11), none, .mov (.t 49)⟩] [] false))))))))
(.reg [⟨(some 50), none, .mov (.t 0)⟩,
 ⟨(some 51), none, .mov (.t 2)⟩,
 ⟨(some 52), none, .mov (.t 10)⟩,
 ⟨(some 53), none, .bin .sub (.t 51) (.t 52)⟩,
 ⟨(some 54), none, .mov (.t 2)⟩,
 ⟨(some 55), none, .mov (.t 10)⟩,
 ⟨(some 56), none, .mov (.t 4)⟩,
 ⟨(some 57), none, .call (.c (.fn 310 [] [])) [(.t 50), (.t 53), (.t 54), (.t 55), (.t 56)]⟩] [] false))))⟩
-- 309 slices.isNaN[int]
def n_slices_isNaN_int : Nat := 309
def af_slices_isNaN_int : AF := ⟨6, [.tmp 2],
(.seq
(.reg [⟨(some 2), none, .mov (.c (.bool false))⟩] [] false)
(.seq
(.reg [⟨(some 3), none, .mov (.t 0)⟩,
 ⟨(some 4), none, .mov (.t 0)⟩,
 ⟨(some 5), none, .bin .neq (.t 3) (.t 4)⟩,
 ⟨(some 2), none, .mov (.t 5)⟩] [] false)
.ret))⟩
-- 310 slices.swapRangeCmpFunc[int]
def n_slices_swapRangeCmpFunc_int : Nat := 310
def af_slices_swapRangeCmpFunc_int : AF := ⟨38, [],
(.seq
(.reg [⟨(some 10), none, .mov (.c (.int .i64 0))⟩] [] false)
(.block 0
 (.loop
  (.seq
  (.seq
  (.reg [⟨(some 11), none, .mov (.t 10)⟩,
   ⟨(some 12), none, .mov (.t 3)⟩,
   ⟨(some 13), none, .bin .lss (.t 11) (.t 12)⟩] [] false)
  (.cond (.t 13)
   .skip
   (.exit 0)))
  (.seq
  (.block 1
   (.reg [⟨(some 16), none, .mov (.t 0)⟩,
    ⟨(some 17), none, .mov (.t 1)⟩,
    ⟨(some 18), none, .mov (.t 10)⟩,
    ⟨(some 19), none, .bin .add (.t 17) (.t 18)⟩,
    ⟨(some 20), none, .mov (.t 0)⟩,
    ⟨(some 21), none, .mov (.t 2)⟩,
    ⟨(some 22), none, .mov (.t 10)⟩,
    ⟨(some 23), none, .bin .add (.t 21) (.t 22)⟩,
    ⟨(some 24), none, .mov (.t 0)⟩,
    ⟨(some 25), none, .mov (.t 2)⟩,
    ⟨(some 26), none, .mov (.t 10)⟩,
    ⟨(some 27), none, .bin .add (.t 25) (.t 26)⟩,
    ⟨(some 28), none, .idx 1 (.t 24) (.t 27)⟩,
    ⟨(some 29), none, .load false 1 (.t 28)⟩,
    ⟨(some 30), none, .mov (.t 0)⟩,
    ⟨(some 31), none, .mov (.t 1)⟩,
    ⟨(some 32), none, .mov (.t 10)⟩,
    ⟨(some 33), none, .bin .add (.t 31) (.t 32)⟩,
    ⟨(some 34), none, .idx 1 (.t 30) (.t 33)⟩,
    ⟨(some 35), none, .load false 1 (.t 34)⟩,
    ⟨(some 36), none, .idx 1 (.t 16) (.t 19)⟩,
    ⟨none, none, .store 1 (.t 36) (.t 29)⟩,
    ⟨(some 37), none, .idx 1 (.t 20) (.t 23)⟩,
    ⟨none, none, .store 1 (.t 37) (.t 35)⟩] [] false))
  (.reg [⟨(some 14), none, .mov (.t 10)⟩,
   ⟨(some 15), none, .bin .add (.t 14) (.c (.int .i64 1))⟩,
   ⟨(some 10), none, .mov (.t 15)⟩] [] false))))))⟩
end Go.Am
