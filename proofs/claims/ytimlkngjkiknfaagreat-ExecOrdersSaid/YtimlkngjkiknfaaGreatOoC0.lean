/- Compact code of functions of the program, printed by a program of this claim. -/
import Derived.Test.YtimlkngjkiknfaaGreatBbCore
set_option maxRecDepth 100000
namespace Go.Proofs.Bb.Oo
open Go
-- busbarlaw25.ExecOrders [rw]
def c3 : AFn := ⟨1, [.tmp 2], false,
  (.seq (.ins [⟨(some 2), none, .mv (.c (.bool false))⟩])
  (.seq (.seq (.ins [⟨(some 12), none, .mv (.t 0)⟩,
    ⟨(some 13), none, .len (.t 12)⟩,
    ⟨(some 14), none, .bin .gtr (.t 13) (.c (.int .i64 30))⟩,
    ⟨(some 15), none, .mv (.t 14)⟩,
    ⟨(some 16), (some (15, false)), .call .rw false 15 []⟩,
    ⟨(some 17), (some (15, false)), .not (.t 16)⟩,
    ⟨(some 18), none, .pick (.t 15) (.c (.bool true)) (.t 17)⟩])
  (.cond (.t 18)
    (.seq (.ins [⟨(some 19), none, .call .rw false 15 []⟩,
      ⟨(some 2), none, .mv (.t 19)⟩])
    .ret)
    .skip))
  (.seq (.ins [⟨(some 20), none, .call .ro true 16 []⟩,
    ⟨(some 3), none, .allocv [.sl 3 [] (some []), .sl 3 [] (some []), .int .i64 0, .int .i64 0, .int .i64 0, .int .i64 0, .int .i64 0, .int .i64 0, .int .i64 0, .int .i64 0, .int .i64 0, .int .u64 0, .sl 2 [] (some [])]⟩,
    ⟨none, none, .store 6 13 0 (.t 3) (.t 20)⟩])
  (.seq (.ins [⟨(some 22), none, .load 6 (some 13) (.t 3)⟩,
    ⟨(some 23), none, .call .rw true 17 [(.t 22)]⟩,
    ⟨(some 21), none, .mv (.t 23)⟩,
    ⟨(some 24), none, .ext (.t 21) 0⟩,
    ⟨(some 25), none, .ext (.t 21) 1⟩,
    ⟨(some 4), none, .mv (.t 24)⟩,
    ⟨(some 5), none, .mv (.t 25)⟩])
  (.seq (.seq (.ins [⟨(some 26), none, .mv (.t 4)⟩,
    ⟨(some 27), none, .eqn false false (.t 26) (.c (.nilp))⟩])
  (.cond (.t 27)
    (.seq (.ins [⟨(some 2), none, .mv (.c (.bool false))⟩])
    .ret)
    .skip))
  (.seq (.ins [⟨(some 6), none, .mv (.c (.bool false))⟩])
  (.seq (.seq (.ins [⟨(some 7), none, .mv (.c (.int .i64 0))⟩])
  (.block 0 (.loop (.seq (.seq (.ins [⟨(some 28), none, .mv (.t 7)⟩,
        ⟨(some 29), none, .mv (.t 0)⟩,
        ⟨(some 30), none, .len (.t 29)⟩,
        ⟨(some 31), none, .bin .lss (.t 28) (.t 30)⟩])
      (.cond (.t 31)
        .skip
        (.exit 0)))
      (.seq (.block 1 (.seq (.ins [⟨(some 34), none, .mv (.t 0)⟩,
          ⟨(some 35), none, .mv (.t 7)⟩,
          ⟨(some 36), none, .iaddr 1 (.t 34) (.t 35)⟩,
          ⟨(some 37), none, .load 2 none (.t 36)⟩,
          ⟨(some 38), none, .call .iso false 18 [(.t 37), (.c (.int .i64 6))]⟩,
          ⟨(some 8), none, .mv (.t 38)⟩])
        (.seq (.ins [⟨(some 39), none, .mv (.t 8)⟩,
          ⟨(some 40), none, .call .ro true 19 [(.t 39)]⟩,
          ⟨(some 9), none, .allocv [.int .i64 0, .int .i64 0, .int .i64 0, .int .u16 0, .int .u16 0, .int .u16 0, .sl 1 [] (some []), .sl 1 [] (some []), .int .i64 0, .int .i64 0, .int .i64 0, .int .i64 0]⟩,
          ⟨none, none, .store 12 12 0 (.t 9) (.t 40)⟩])
        (.seq (.seq (.ins [⟨(some 41), none, .mv (.t 0)⟩,
          ⟨(some 42), none, .mv (.t 7)⟩,
          ⟨(some 43), none, .iaddr 1 (.t 41) (.t 42)⟩,
          ⟨(some 44), none, .load 2 none (.t 43)⟩,
          ⟨(some 45), none, .call .iso false 20 [(.t 44), (.c (.int .i64 6)), (.c (.int .i64 2))]⟩,
          ⟨(some 46), none, .bin .eql (.t 45) (.c (.int .i64 1))⟩])
        (.cond (.t 46)
          (.ins [⟨(some 47), none, .mv (.t 8)⟩,
            ⟨(some 48), none, .convi .u16 (.t 47)⟩,
            ⟨(some 49), none, .bsl 1 [.int .u16 0] 1 [(0, (.t 48))]⟩,
            ⟨(some 50), none, .build [.int .i64 0, .int .i64 0, .int .i64 0, .int .u16 0, .int .u16 0, .int .u16 0, .sl 1 [] (some []), .sl 1 [] (some []), .int .i64 0, .int .i64 0, .int .i64 0, .int .i64 0] [(0, 1, (.c (.int .i64 16))), (1, 1, (.c (.int .i64 100))), (2, 1, (.c (.int .i64 1))), (7, 1, (.t 49))]⟩,
            ⟨none, none, .store 12 12 0 (.t 9) (.t 50)⟩])
          .skip))
        (.seq (.ins [⟨(some 51), none, .mv (.t 4)⟩,
          ⟨(some 52), none, .load 6 (some 13) (.t 3)⟩,
          ⟨(some 53), none, .load 12 (some 12) (.t 9)⟩,
          ⟨(some 54), none, .call .rw true 21 [(.t 51), (.t 52), (.c (.int .i64 5)), (.t 53)]⟩,
          ⟨(some 10), none, .allocv [.int .i64 0, .int .i64 0, .sl 1 [] (some []), .sl 1 [] (some []), .int .i64 0, .int .i64 0, .int .u16 0, .int .u16 0, .int .u16 0, .int .i64 0, .int .i64 0, .bool false, .int .i64 0, .sl 2 [] (some [])]⟩,
          ⟨none, none, .store 13 14 0 (.t 10) (.t 54)⟩])
        (.seq (.ins [⟨(some 11), none, .mv (.c (.int .i64 3))⟩])
        (.seq (.block 2 (.seq (.ins [⟨(some 56), none, .mv (.t 8)⟩,
            ⟨(some 57), none, .bin .eql (.t 56) (.c (.int .i64 1))⟩,
            ⟨(some 58), none, .mv (.t 57)⟩,
            ⟨(some 59), (some (58, true)), .mv (.t 6)⟩,
            ⟨(some 60), (some (58, true)), .not (.t 59)⟩,
            ⟨(some 61), none, .pick (.t 58) (.t 60) (.c (.bool false))⟩,
            ⟨(some 62), none, .mv (.t 61)⟩,
            ⟨(some 63), (some (62, false)), .mv (.t 8)⟩,
            ⟨(some 64), (some (62, false)), .bin .eql (.t 63) (.c (.int .i64 2))⟩,
            ⟨(some 65), (some (62, false)), .mv (.t 64)⟩,
            ⟨(some 66), (some (65, false)), .mv (.t 8)⟩,
            ⟨(some 67), (some (65, false)), .bin .eql (.t 66) (.c (.int .i64 3))⟩,
            ⟨(some 68), (some (62, false)), .pick (.t 65) (.c (.bool true)) (.t 67)⟩,
            ⟨(some 69), (some (62, false)), .mv (.t 68)⟩,
            ⟨(some 70), (some (69, true)), .mv (.t 6)⟩,
            ⟨(some 71), (some (62, false)), .pick (.t 69) (.t 70) (.c (.bool false))⟩,
            ⟨(some 72), none, .pick (.t 62) (.c (.bool true)) (.t 71)⟩,
            ⟨(some 55), none, .mv (.t 72)⟩])
          (.cond (.t 55)
            (.seq (.ins [⟨(some 11), none, .mv (.c (.int .i64 0))⟩])
            (.ins [⟨(some 73), none, .mv (.t 6)⟩,
              ⟨(some 74), none, .not (.t 73)⟩,
              ⟨(some 6), none, .mv (.t 74)⟩]))
            (.seq (.ins [⟨(some 76), none, .mv (.t 8)⟩,
              ⟨(some 77), none, .bin .geq (.t 76) (.c (.int .i64 1))⟩,
              ⟨(some 78), none, .mv (.t 77)⟩,
              ⟨(some 79), (some (78, true)), .mv (.t 8)⟩,
              ⟨(some 80), (some (78, true)), .bin .leq (.t 79) (.c (.int .i64 3))⟩,
              ⟨(some 81), none, .pick (.t 78) (.t 80) (.c (.bool false))⟩,
              ⟨(some 75), none, .mv (.t 81)⟩])
            (.cond (.t 75)
              (.ins [⟨(some 11), none, .mv (.c (.int .i64 4))⟩])
              .skip)))))
        (.seq (.ins [⟨(some 82), none, .faddr (.t 10) 1⟩,
          ⟨(some 83), none, .load 13 none (.t 82)⟩,
          ⟨(some 84), none, .mv (.t 11)⟩,
          ⟨(some 85), none, .bin .neq (.t 83) (.t 84)⟩,
          ⟨(some 86), none, .mv (.t 85)⟩,
          ⟨(some 87), (some (86, false)), .faddr (.t 10) 0⟩,
          ⟨(some 88), (some (86, false)), .load 13 none (.t 87)⟩,
          ⟨(some 89), (some (86, false)), .faddr (.t 9) 0⟩,
          ⟨(some 90), (some (86, false)), .load 12 none (.t 89)⟩,
          ⟨(some 91), (some (86, false)), .bin .neq (.t 88) (.t 90)⟩,
          ⟨(some 92), none, .pick (.t 86) (.c (.bool true)) (.t 91)⟩,
          ⟨(some 93), none, .mv (.t 92)⟩,
          ⟨(some 94), (some (93, false)), .mv (.t 11)⟩,
          ⟨(some 95), (some (93, false)), .bin .eql (.t 94) (.c (.int .i64 0))⟩,
          ⟨(some 96), (some (93, false)), .mv (.t 95)⟩,
          ⟨(some 97), (some (96, true)), .load 13 (some 14) (.t 10)⟩,
          ⟨(some 98), (some (96, true)), .load 12 (some 12) (.t 9)⟩,
          ⟨(some 99), (some (96, true)), .call .ro true 23 [(.t 98)]⟩,
          ⟨(some 100), (some (96, true)), .call .iso true 22 [(.t 97), (.t 99)]⟩,
          ⟨(some 101), (some (96, true)), .not (.t 100)⟩,
          ⟨(some 102), (some (93, false)), .pick (.t 96) (.t 101) (.c (.bool false))⟩,
          ⟨(some 103), none, .pick (.t 93) (.c (.bool true)) (.t 102)⟩,
          ⟨(some 104), none, .mv (.t 103)⟩,
          ⟨(some 105), (some (104, false)), .mv (.t 4)⟩,
          ⟨(some 106), (some (104, false)), .call .ro false 24 [(.t 105), (.c (.int .i64 5))]⟩,
          ⟨(some 107), (some (104, false)), .fld (.t 106) 0 none⟩,
          ⟨(some 108), (some (104, false)), .bin .eql (.t 107) (.c (.int .i64 1))⟩,
          ⟨(some 109), (some (104, false)), .mv (.t 6)⟩,
          ⟨(some 110), (some (104, false)), .eqv true false [.b] (.t 108) (.t 109)⟩,
          ⟨(some 111), none, .pick (.t 104) (.c (.bool true)) (.t 110)⟩])
        (.cond (.t 111)
          (.seq (.ins [⟨(some 2), none, .mv (.c (.bool false))⟩])
          .ret)
          .skip)))))))))
      (.ins [⟨(some 32), none, .mv (.t 7)⟩,
        ⟨(some 33), none, .bin .add (.t 32) (.c (.int .i64 1))⟩,
        ⟨(some 7), none, .mv (.t 33)⟩]))))))
  (.seq (.ins [⟨(some 112), none, .mv (.t 4)⟩,
    ⟨(some 113), none, .call .ro false 25 [(.t 112)]⟩,
    ⟨(some 114), none, .call .ro false 26 [(.t 113)]⟩,
    ⟨(some 115), none, .call .ro false 27 [(.t 114)]⟩,
    ⟨(some 116), none, .bin .eql (.t 115) (.c (.int .u64 0))⟩,
    ⟨(some 2), none, .mv (.t 116)⟩])
  .ret))))))))⟩
-- busbarlaw25.awake [rw]
def c15 : AFn := ⟨0, [.tmp 0], false,
  (.seq (.ins [⟨(some 0), none, .mv (.c (.bool false))⟩])
  (.seq (.ins [⟨(some 6), none, .call .ro true 28 [(.c (.sl 1 [] (some [])))]⟩,
    ⟨(some 1), none, .allocv [.sl 3 [] (some []), .sl 3 [] (some []), .int .i64 0, .int .i64 0, .int .i64 0, .int .i64 0, .int .i64 0, .int .i64 0, .int .i64 0, .int .i64 0, .int .i64 0, .int .u64 0, .sl 2 [] (some [])]⟩,
    ⟨none, none, .store 4 13 0 (.t 1) (.t 6)⟩])
  (.seq (.ins [⟨(some 8), none, .load 4 (some 13) (.t 1)⟩,
    ⟨(some 9), none, .call .rw true 17 [(.t 8)]⟩,
    ⟨(some 7), none, .mv (.t 9)⟩,
    ⟨(some 10), none, .ext (.t 7) 0⟩,
    ⟨(some 11), none, .ext (.t 7) 1⟩,
    ⟨(some 2), none, .mv (.t 10)⟩,
    ⟨(some 3), none, .mv (.t 11)⟩])
  (.seq (.seq (.ins [⟨(some 12), none, .mv (.t 2)⟩,
    ⟨(some 13), none, .eqn false false (.t 12) (.c (.nilp))⟩])
  (.cond (.t 13)
    (.seq (.ins [⟨(some 0), none, .mv (.c (.bool false))⟩])
    .ret)
    .skip))
  (.seq (.ins [⟨(some 14), none, .mv (.t 2)⟩,
    ⟨(some 15), none, .load 4 (some 13) (.t 1)⟩,
    ⟨(some 16), none, .call .ro true 19 [(.c (.int .i64 1))]⟩,
    ⟨(some 17), none, .call .rw true 21 [(.t 14), (.t 15), (.c (.int .i64 0)), (.t 16)]⟩,
    ⟨(some 4), none, .allocv [.int .i64 0, .int .i64 0, .sl 1 [] (some []), .sl 1 [] (some []), .int .i64 0, .int .i64 0, .int .u16 0, .int .u16 0, .int .u16 0, .int .i64 0, .int .i64 0, .bool false, .int .i64 0, .sl 2 [] (some [])]⟩,
    ⟨none, none, .store 7 14 0 (.t 4) (.t 17)⟩])
  (.seq (.ins [⟨(some 18), none, .mv (.t 2)⟩,
    ⟨(some 19), none, .load 4 (some 13) (.t 1)⟩,
    ⟨(some 20), none, .build [.int .i64 0, .int .i64 0, .int .i64 0, .int .u16 0, .int .u16 0, .int .u16 0, .sl 1 [] (some []), .sl 1 [] (some []), .int .i64 0, .int .i64 0, .int .i64 0, .int .i64 0] [(0, 1, (.c (.int .i64 3))), (1, 1, (.c (.int .i64 65535))), (2, 1, (.c (.int .i64 2)))]⟩,
    ⟨(some 21), none, .call .rw true 21 [(.t 18), (.t 19), (.c (.int .i64 0)), (.t 20)]⟩,
    ⟨(some 5), none, .allocv [.int .i64 0, .int .i64 0, .sl 1 [] (some []), .sl 1 [] (some []), .int .i64 0, .int .i64 0, .int .u16 0, .int .u16 0, .int .u16 0, .int .i64 0, .int .i64 0, .bool false, .int .i64 0, .sl 2 [] (some [])]⟩,
    ⟨none, none, .store 8 14 0 (.t 5) (.t 21)⟩])
  (.seq (.ins [⟨(some 22), none, .faddr (.t 4) 0⟩,
    ⟨(some 23), none, .load 7 none (.t 22)⟩,
    ⟨(some 24), none, .bin .eql (.t 23) (.c (.int .i64 6))⟩,
    ⟨(some 25), none, .mv (.t 24)⟩,
    ⟨(some 26), (some (25, true)), .faddr (.t 5) 1⟩,
    ⟨(some 27), (some (25, true)), .load 8 none (.t 26)⟩,
    ⟨(some 28), (some (25, true)), .bin .eql (.t 27) (.c (.int .i64 2))⟩,
    ⟨(some 29), none, .pick (.t 25) (.t 28) (.c (.bool false))⟩,
    ⟨(some 0), none, .mv (.t 29)⟩])
  .ret)))))))⟩
-- busbarlaw0.Wide [iso]
def c16 : AFn := ⟨0, [.cell 0 (some 13)], false,
  (.seq (.ins [⟨(some 0), none, .allocv [.sl 3 [] (some []), .sl 3 [] (some []), .int .i64 0, .int .i64 0, .int .i64 0, .int .i64 0, .int .i64 0, .int .i64 0, .int .i64 0, .int .i64 0, .int .i64 0, .int .u64 0, .sl 2 [] (some [])]⟩])
  (.seq (.ins [⟨(some 2), none, .call .ro true 28 [(.c (.sl 1 [] (some [])))]⟩,
    ⟨(some 1), none, .allocv [.sl 3 [] (some []), .sl 3 [] (some []), .int .i64 0, .int .i64 0, .int .i64 0, .int .i64 0, .int .i64 0, .int .i64 0, .int .i64 0, .int .i64 0, .int .i64 0, .int .u64 0, .sl 2 [] (some [])]⟩,
    ⟨none, none, .store 4 13 0 (.t 1) (.t 2)⟩])
  (.seq (.ins [⟨(some 3), none, .faddr (.t 1) 3⟩,
    ⟨none, none, .store 4 1 0 (.t 3) (.c (.int .i64 1000))⟩,
    ⟨(some 4), none, .faddr (.t 1) 5⟩,
    ⟨none, none, .store 4 1 0 (.t 4) (.c (.int .i64 8))⟩,
    ⟨(some 5), none, .faddr (.t 1) 6⟩,
    ⟨none, none, .store 4 1 0 (.t 5) (.c (.int .i64 100000))⟩,
    ⟨(some 6), none, .faddr (.t 1) 7⟩,
    ⟨none, none, .store 4 1 0 (.t 6) (.c (.int .i64 500))⟩,
    ⟨(some 7), none, .faddr (.t 1) 8⟩,
    ⟨none, none, .store 4 1 0 (.t 7) (.c (.int .i64 2000))⟩,
    ⟨(some 8), none, .faddr (.t 1) 4⟩,
    ⟨none, none, .store 4 1 0 (.t 8) (.c (.int .i64 8))⟩,
    ⟨(some 9), none, .faddr (.t 1) 11⟩,
    ⟨none, none, .store 4 1 0 (.t 9) (.c (.int .u64 0))⟩])
  (.seq (.ins [⟨(some 10), none, .load 4 (some 13) (.t 1)⟩,
    ⟨none, none, .store 3 13 0 (.t 0) (.t 10)⟩])
  .ret))))⟩
-- busbarlaw25.Sessions [rw]
def c17 : AFn := ⟨1, [.tmp 2, .tmp 3], false,
  (.seq (.ins [⟨(some 1), none, .boxv 13 (.t 0)⟩,
    ⟨(some 2), none, .mv (.c (.nilp))⟩,
    ⟨(some 3), none, .mv (.c (.nilp))⟩])
  (.seq (.ins [⟨(some 7), none, .faddr (.t 1) 11⟩,
    ⟨(some 8), none, .load 4 none (.t 7)⟩,
    ⟨(some 9), none, .faddr (.t 1) 6⟩,
    ⟨(some 10), none, .load 4 none (.t 9)⟩,
    ⟨(some 11), none, .call .rw false 67 [(.t 8), (.t 10)]⟩,
    ⟨(some 12), none, .faddr (.t 1) 5⟩,
    ⟨(some 13), none, .load 4 none (.t 12)⟩,
    ⟨(some 14), none, .faddr (.t 1) 7⟩,
    ⟨(some 15), none, .load 4 none (.t 14)⟩,
    ⟨(some 16), none, .faddr (.t 1) 8⟩,
    ⟨(some 17), none, .load 4 none (.t 16)⟩,
    ⟨(some 18), none, .call .rw false 66 [(.t 11), (.t 13), (.t 15), (.t 17)]⟩,
    ⟨(some 19), none, .faddr (.t 1) 3⟩,
    ⟨(some 20), none, .load 4 none (.t 19)⟩,
    ⟨(some 21), none, .call .rw false 65 [(.t 18), (.t 20)]⟩,
    ⟨(some 4), none, .mv (.t 21)⟩])
  (.seq (.ins [⟨(some 22), none, .faddr (.t 1) 11⟩,
    ⟨(some 23), none, .load 4 none (.t 22)⟩,
    ⟨(some 24), none, .faddr (.t 1) 6⟩,
    ⟨(some 25), none, .load 4 none (.t 24)⟩,
    ⟨(some 26), none, .call .rw false 68 [(.t 23), (.t 25)]⟩,
    ⟨(some 5), none, .mv (.t 26)⟩])
  (.seq (.seq (.ins [⟨(some 27), none, .mv (.t 5)⟩,
    ⟨(some 28), none, .eqn false false (.t 27) (.c (.nilp))⟩])
  (.cond (.t 28)
    (.seq (.ins [⟨(some 29), none, .mv (.t 4)⟩,
      ⟨(some 2), none, .mv (.c (.nilp))⟩,
      ⟨(some 3), none, .mv (.t 29)⟩])
    .ret)
    .skip))
  (.seq (.ins [⟨(some 30), none, .mv (.t 5)⟩,
    ⟨(some 31), none, .faddr (.t 1) 5⟩,
    ⟨(some 32), none, .load 4 none (.t 31)⟩,
    ⟨(some 33), none, .faddr (.t 1) 7⟩,
    ⟨(some 34), none, .load 4 none (.t 33)⟩,
    ⟨(some 35), none, .faddr (.t 1) 8⟩,
    ⟨(some 36), none, .load 4 none (.t 35)⟩,
    ⟨(some 37), none, .call .rw false 69 [(.t 30), (.t 32), (.t 34), (.t 36)]⟩,
    ⟨(some 6), none, .mv (.t 37)⟩])
  (.seq (.seq (.ins [⟨(some 38), none, .mv (.t 6)⟩,
    ⟨(some 39), none, .eqn false false (.t 38) (.c (.nilp))⟩])
  (.cond (.t 39)
    (.seq (.ins [⟨(some 40), none, .mv (.t 4)⟩,
      ⟨(some 2), none, .mv (.c (.nilp))⟩,
      ⟨(some 3), none, .mv (.t 40)⟩])
    .ret)
    .skip))
  (.seq (.ins [⟨(some 41), none, .mv (.t 6)⟩,
    ⟨(some 42), none, .faddr (.t 1) 3⟩,
    ⟨(some 43), none, .load 4 none (.t 42)⟩,
    ⟨(some 44), none, .call .rw false 70 [(.t 41), (.t 43)]⟩,
    ⟨(some 45), none, .mv (.t 4)⟩,
    ⟨(some 2), none, .mv (.t 44)⟩,
    ⟨(some 3), none, .mv (.t 45)⟩])
  .ret)))))))⟩
-- busbarlaw0.Within [iso]
def c18 : AFn := ⟨2, [.tmp 4], false,
  (.seq (.ins [⟨(some 4), none, .mv (.c (.int .i64 0))⟩])
  (.seq (.ins [⟨(some 5), none, .mv (.t 0)⟩,
    ⟨(some 6), none, .mv (.t 1)⟩,
    ⟨(some 7), none, .bin .rem (.t 5) (.t 6)⟩,
    ⟨(some 0), none, .mv (.t 7)⟩])
  (.seq (.seq (.ins [⟨(some 8), none, .mv (.t 0)⟩,
    ⟨(some 9), none, .bin .lss (.t 8) (.c (.int .i64 0))⟩])
  (.cond (.t 9)
    (.ins [⟨(some 10), none, .mv (.t 0)⟩,
      ⟨(some 11), none, .mv (.t 1)⟩,
      ⟨(some 12), none, .bin .add (.t 10) (.t 11)⟩,
      ⟨(some 0), none, .mv (.t 12)⟩])
    .skip))
  (.seq (.ins [⟨(some 13), none, .mv (.t 0)⟩,
    ⟨(some 4), none, .mv (.t 13)⟩])
  .ret))))⟩
-- busbarlaw0.Order [iso]
def c19 : AFn := ⟨1, [.cell 2 (some 12)], false,
  (.seq (.ins [⟨(some 2), none, .allocv [.int .i64 0, .int .i64 0, .int .i64 0, .int .u16 0, .int .u16 0, .int .u16 0, .sl 1 [] (some []), .sl 1 [] (some []), .int .i64 0, .int .i64 0, .int .i64 0, .int .i64 0]⟩])
  (.seq (.ins [⟨(some 3), none, .mv (.t 0)⟩,
    ⟨(some 4), none, .call .iso false 18 [(.t 3), (.c (.int .i64 65536))]⟩,
    ⟨(some 5), none, .convi .u16 (.t 4)⟩,
    ⟨(some 6), none, .build [.int .i64 0, .int .i64 0, .int .i64 0, .int .u16 0, .int .u16 0, .int .u16 0, .sl 1 [] (some []), .sl 1 [] (some []), .int .i64 0, .int .i64 0, .int .i64 0, .int .i64 0] [(0, 1, (.c (.int .i64 6))), (1, 1, (.c (.int .i64 100))), (3, 1, (.t 5))]⟩,
    ⟨none, none, .store 5 12 0 (.t 2) (.t 6)⟩])
  .ret))⟩
-- busbarlaw0.Digit [iso]
def c20 : AFn := ⟨3, [.tmp 6], false,
  (.seq (.ins [⟨(some 6), none, .mv (.c (.int .i64 0))⟩])
  (.seq (.ins [⟨(some 7), none, .mv (.t 0)⟩,
    ⟨(some 8), none, .mv (.t 1)⟩,
    ⟨(some 9), none, .bin .quo (.t 7) (.t 8)⟩,
    ⟨(some 10), none, .mv (.t 2)⟩,
    ⟨(some 11), none, .call .iso false 18 [(.t 9), (.t 10)]⟩,
    ⟨(some 6), none, .mv (.t 11)⟩])
  .ret))⟩
-- exec.Do [rw]
def c21 : AFn := ⟨4, [.cell 8 (some 14)], false,
  (.seq (.ins [⟨(some 5), none, .boxv 13 (.t 1)⟩,
    ⟨(some 7), none, .boxv 12 (.t 3)⟩,
    ⟨(some 8), none, .allocv [.int .i64 0, .int .i64 0, .sl 1 [] (some []), .sl 1 [] (some []), .int .i64 0, .int .i64 0, .int .u16 0, .int .u16 0, .int .u16 0, .int .i64 0, .int .i64 0, .bool false, .int .i64 0, .sl 2 [] (some [])]⟩])
  (.seq (.seq (.ins [⟨(some 14), none, .load 10 (some 12) (.t 7)⟩,
    ⟨(some 15), none, .call .iso true 71 [(.t 14)]⟩,
    ⟨(some 16), none, .not (.t 15)⟩])
  (.cond (.t 16)
    (.seq (.ins [⟨(some 17), none, .faddr (.t 7) 0⟩,
      ⟨(some 18), none, .load 10 none (.t 17)⟩,
      ⟨(some 19), none, .call .ro true 72 [(.t 18), (.c (.int .i64 3))]⟩,
      ⟨none, none, .store 11 14 0 (.t 8) (.t 19)⟩])
    .ret)
    .skip))
  (.seq (.seq (.ins [⟨(some 20), none, .faddr (.t 7) 0⟩,
    ⟨(some 21), none, .load 10 none (.t 20)⟩,
    ⟨(some 22), none, .bin .eql (.t 21) (.c (.int .i64 43))⟩])
  (.cond (.t 22)
    (.seq (.ins [⟨(some 23), none, .load 8 (some 13) (.t 5)⟩,
      ⟨(some 24), none, .load 10 (some 12) (.t 7)⟩,
      ⟨(some 25), none, .call .rw true 73 [(.t 23), (.t 24)]⟩,
      ⟨none, none, .store 11 14 0 (.t 8) (.t 25)⟩])
    .ret)
    .skip))
  (.seq (.ins [⟨(some 27), none, .load 10 (some 12) (.t 7)⟩,
    ⟨(some 28), none, .call .ro true 74 [(.t 27)]⟩,
    ⟨(some 26), none, .mv (.t 28)⟩,
    ⟨(some 29), none, .ext (.t 26) 0⟩,
    ⟨(some 30), none, .ext (.t 26) 1⟩,
    ⟨(some 9), none, .mv (.t 29)⟩,
    ⟨(some 10), none, .mv (.t 30)⟩])
  (.seq (.ins [⟨(some 31), none, .mv (.t 9)⟩,
    ⟨(some 32), none, .mv (.t 10)⟩,
    ⟨(some 33), none, .bsl 1 [.sl 3 [] (some [])] 2 [(0, (.t 31)), (1, (.t 32))]⟩,
    ⟨(some 34), none, .call .ro true 75 [(.t 33)]⟩,
    ⟨(some 11), none, .mv (.t 34)⟩])
  (.seq (.ins [⟨(some 35), none, .mkfn 76 [] [(.t 5)]⟩,
    ⟨(some 12), none, .mv (.t 35)⟩])
  (.seq (.ins [⟨(some 36), none, .mkfn 79 [] [(.t 5)]⟩,
    ⟨(some 13), none, .mv (.t 36)⟩])
  (.seq (.block 0 (.seq (.ins [⟨(some 38), none, .mv (.t 11)⟩,
      ⟨(some 39), none, .mv (.t 12)⟩,
      ⟨(some 40), none, .callv .ro false (.t 39) [(.c (.int .i64 0))]⟩,
      ⟨(some 41), none, .call .iso true 81 [(.t 38), (.t 40)]⟩,
      ⟨(some 37), none, .mv (.t 41)⟩])
    (.cond (.t 37)
      (.seq (.ins [⟨(some 42), none, .faddr (.t 7) 0⟩,
        ⟨(some 43), none, .load 10 none (.t 42)⟩,
        ⟨(some 44), none, .call .ro true 72 [(.t 43), (.c (.int .i64 2))]⟩,
        ⟨none, none, .store 11 14 0 (.t 8) (.t 44)⟩])
      .ret)
      (.seq (.ins [⟨(some 46), none, .mv (.t 11)⟩,
        ⟨(some 47), none, .mv (.t 12)⟩,
        ⟨(some 48), none, .callv .ro false (.t 47) [(.c (.int .i64 2))]⟩,
        ⟨(some 49), none, .call .iso true 81 [(.t 46), (.t 48)]⟩,
        ⟨(some 45), none, .mv (.t 49)⟩])
      (.cond (.t 45)
        (.seq (.ins [⟨(some 50), none, .mv (.t 0)⟩,
          ⟨(some 51), none, .faddr (.t 5) 2⟩,
          ⟨(some 52), none, .load 8 none (.t 51)⟩,
          ⟨(some 53), none, .mv (.t 2)⟩,
          ⟨(some 54), none, .load 10 (some 12) (.t 7)⟩,
          ⟨(some 55), none, .call .rw true 82 [(.t 50), (.t 52), (.t 53), (.t 54)]⟩,
          ⟨none, none, .store 11 14 0 (.t 8) (.t 55)⟩])
        .ret)
        (.seq (.ins [⟨(some 57), none, .mv (.t 10)⟩,
          ⟨(some 58), none, .mv (.t 13)⟩,
          ⟨(some 59), none, .call .iso true 81 [(.t 57), (.t 58)]⟩,
          ⟨(some 56), none, .mv (.t 59)⟩])
        (.cond (.t 56)
          (.seq (.ins [⟨(some 60), none, .faddr (.t 7) 0⟩,
            ⟨(some 61), none, .load 10 none (.t 60)⟩,
            ⟨(some 62), none, .call .ro true 72 [(.t 61), (.c (.int .i64 2))]⟩,
            ⟨none, none, .store 11 14 0 (.t 8) (.t 62)⟩])
          .ret)
          (.seq (.ins [⟨(some 64), none, .mv (.t 0)⟩,
            ⟨(some 65), none, .mv (.t 2)⟩,
            ⟨(some 66), none, .call .ro false 24 [(.t 64), (.t 65)]⟩,
            ⟨(some 67), none, .fld (.t 66) 0 none⟩,
            ⟨(some 68), none, .bin .eql (.t 67) (.c (.int .i64 2))⟩,
            ⟨(some 63), none, .mv (.t 68)⟩])
          (.cond (.t 63)
            (.seq (.ins [⟨(some 69), none, .faddr (.t 7) 0⟩,
              ⟨(some 70), none, .load 10 none (.t 69)⟩,
              ⟨(some 71), none, .call .ro true 72 [(.t 70), (.c (.int .i64 4))]⟩,
              ⟨none, none, .store 11 14 0 (.t 8) (.t 71)⟩])
            .ret)
            .skip)))))))))
  (.seq (.ins [⟨(some 72), none, .mv (.t 0)⟩,
    ⟨(some 73), none, .mv (.t 2)⟩,
    ⟨(some 74), none, .load 10 (some 12) (.t 7)⟩,
    ⟨(some 75), none, .mv (.t 9)⟩,
    ⟨(some 76), none, .mv (.t 10)⟩,
    ⟨(some 77), none, .call .rw true 83 [(.t 72), (.t 73), (.t 74), (.t 75), (.t 76)]⟩,
    ⟨none, none, .store 11 14 0 (.t 8) (.t 77)⟩])
  .ret)))))))))⟩
-- busbarref5.SameTell [iso]
def c22 : AFn := ⟨2, [.tmp 4], false,
  (.seq (.ins [⟨(some 2), none, .boxv 14 (.t 0)⟩,
    ⟨(some 3), none, .boxv 14 (.t 1)⟩,
    ⟨(some 4), none, .mv (.c (.bool false))⟩])
  (.seq (.seq (.ins [⟨(some 6), none, .faddr (.t 2) 13⟩,
    ⟨(some 7), none, .load 5 none (.t 6)⟩,
    ⟨(some 8), none, .len (.t 7)⟩,
    ⟨(some 9), none, .faddr (.t 3) 13⟩,
    ⟨(some 10), none, .load 6 none (.t 9)⟩,
    ⟨(some 11), none, .len (.t 10)⟩,
    ⟨(some 12), none, .bin .neq (.t 8) (.t 11)⟩])
  (.cond (.t 12)
    (.seq (.ins [⟨(some 4), none, .mv (.c (.bool false))⟩])
    .ret)
    .skip))
  (.seq (.seq (.ins [⟨(some 5), none, .mv (.c (.int .i64 0))⟩])
  (.block 0 (.loop (.seq (.seq (.ins [⟨(some 13), none, .mv (.t 5)⟩,
        ⟨(some 14), none, .faddr (.t 2) 13⟩,
        ⟨(some 15), none, .load 5 none (.t 14)⟩,
        ⟨(some 16), none, .len (.t 15)⟩,
        ⟨(some 17), none, .bin .lss (.t 13) (.t 16)⟩])
      (.cond (.t 17)
        .skip
        (.exit 0)))
      (.seq (.block 1 (.seq (.ins [⟨(some 20), none, .faddr (.t 2) 13⟩,
          ⟨(some 21), none, .load 5 none (.t 20)⟩,
          ⟨(some 22), none, .mv (.t 5)⟩,
          ⟨(some 23), none, .iaddr 2 (.t 21) (.t 22)⟩,
          ⟨(some 24), none, .load 1 (some 2) (.t 23)⟩,
          ⟨(some 25), none, .faddr (.t 3) 13⟩,
          ⟨(some 26), none, .load 6 none (.t 25)⟩,
          ⟨(some 27), none, .mv (.t 5)⟩,
          ⟨(some 28), none, .iaddr 2 (.t 26) (.t 27)⟩,
          ⟨(some 29), none, .load 1 (some 2) (.t 28)⟩,
          ⟨(some 30), none, .eqv true true [.i, .s] (.t 24) (.t 29)⟩])
        (.cond (.t 30)
          (.seq (.ins [⟨(some 4), none, .mv (.c (.bool false))⟩])
          .ret)
          .skip)))
      (.ins [⟨(some 18), none, .mv (.t 5)⟩,
        ⟨(some 19), none, .bin .add (.t 18) (.c (.int .i64 1))⟩,
        ⟨(some 5), none, .mv (.t 19)⟩]))))))
  (.seq (.ins [⟨(some 31), none, .faddr (.t 2) 0⟩,
    ⟨(some 32), none, .load 5 none (.t 31)⟩,
    ⟨(some 33), none, .faddr (.t 3) 0⟩,
    ⟨(some 34), none, .load 6 none (.t 33)⟩,
    ⟨(some 35), none, .bin .eql (.t 32) (.t 34)⟩,
    ⟨(some 36), none, .mv (.t 35)⟩,
    ⟨(some 37), (some (36, true)), .faddr (.t 2) 1⟩,
    ⟨(some 38), (some (36, true)), .load 5 none (.t 37)⟩,
    ⟨(some 39), (some (36, true)), .faddr (.t 3) 1⟩,
    ⟨(some 40), (some (36, true)), .load 6 none (.t 39)⟩,
    ⟨(some 41), (some (36, true)), .bin .eql (.t 38) (.t 40)⟩,
    ⟨(some 42), none, .pick (.t 36) (.t 41) (.c (.bool false))⟩,
    ⟨(some 43), none, .mv (.t 42)⟩,
    ⟨(some 44), (some (43, true)), .faddr (.t 2) 2⟩,
    ⟨(some 45), (some (43, true)), .load 5 none (.t 44)⟩,
    ⟨(some 46), (some (43, true)), .faddr (.t 3) 2⟩,
    ⟨(some 47), (some (43, true)), .load 6 none (.t 46)⟩,
    ⟨(some 48), (some (43, true)), .call .iso true 84 [(.t 45), (.t 47)]⟩,
    ⟨(some 49), none, .pick (.t 43) (.t 48) (.c (.bool false))⟩,
    ⟨(some 50), none, .mv (.t 49)⟩,
    ⟨(some 51), (some (50, true)), .faddr (.t 2) 3⟩,
    ⟨(some 52), (some (50, true)), .load 5 none (.t 51)⟩,
    ⟨(some 53), (some (50, true)), .faddr (.t 3) 3⟩,
    ⟨(some 54), (some (50, true)), .load 6 none (.t 53)⟩,
    ⟨(some 55), (some (50, true)), .call .iso true 85 [(.t 52), (.t 54)]⟩,
    ⟨(some 56), none, .pick (.t 50) (.t 55) (.c (.bool false))⟩,
    ⟨(some 57), none, .mv (.t 56)⟩,
    ⟨(some 58), (some (57, true)), .faddr (.t 2) 4⟩,
    ⟨(some 59), (some (57, true)), .load 5 none (.t 58)⟩,
    ⟨(some 60), (some (57, true)), .faddr (.t 3) 4⟩,
    ⟨(some 61), (some (57, true)), .load 6 none (.t 60)⟩,
    ⟨(some 62), (some (57, true)), .bin .eql (.t 59) (.t 61)⟩,
    ⟨(some 63), none, .pick (.t 57) (.t 62) (.c (.bool false))⟩,
    ⟨(some 64), none, .mv (.t 63)⟩,
    ⟨(some 65), (some (64, true)), .faddr (.t 2) 5⟩,
    ⟨(some 66), (some (64, true)), .load 5 none (.t 65)⟩,
    ⟨(some 67), (some (64, true)), .faddr (.t 3) 5⟩,
    ⟨(some 68), (some (64, true)), .load 6 none (.t 67)⟩,
    ⟨(some 69), (some (64, true)), .bin .eql (.t 66) (.t 68)⟩,
    ⟨(some 70), none, .pick (.t 64) (.t 69) (.c (.bool false))⟩,
    ⟨(some 71), none, .mv (.t 70)⟩,
    ⟨(some 72), (some (71, true)), .faddr (.t 2) 6⟩,
    ⟨(some 73), (some (71, true)), .load 5 none (.t 72)⟩,
    ⟨(some 74), (some (71, true)), .faddr (.t 3) 6⟩,
    ⟨(some 75), (some (71, true)), .load 6 none (.t 74)⟩,
    ⟨(some 76), (some (71, true)), .bin .eql (.t 73) (.t 75)⟩,
    ⟨(some 77), none, .pick (.t 71) (.t 76) (.c (.bool false))⟩,
    ⟨(some 78), none, .mv (.t 77)⟩,
    ⟨(some 79), (some (78, true)), .faddr (.t 2) 7⟩,
    ⟨(some 80), (some (78, true)), .load 5 none (.t 79)⟩,
    ⟨(some 81), (some (78, true)), .faddr (.t 3) 7⟩,
    ⟨(some 82), (some (78, true)), .load 6 none (.t 81)⟩,
    ⟨(some 83), (some (78, true)), .bin .eql (.t 80) (.t 82)⟩,
    ⟨(some 84), none, .pick (.t 78) (.t 83) (.c (.bool false))⟩,
    ⟨(some 85), none, .mv (.t 84)⟩,
    ⟨(some 86), (some (85, true)), .faddr (.t 2) 8⟩,
    ⟨(some 87), (some (85, true)), .load 5 none (.t 86)⟩,
    ⟨(some 88), (some (85, true)), .faddr (.t 3) 8⟩,
    ⟨(some 89), (some (85, true)), .load 6 none (.t 88)⟩,
    ⟨(some 90), (some (85, true)), .bin .eql (.t 87) (.t 89)⟩,
    ⟨(some 91), none, .pick (.t 85) (.t 90) (.c (.bool false))⟩,
    ⟨(some 92), none, .mv (.t 91)⟩,
    ⟨(some 93), (some (92, true)), .faddr (.t 2) 9⟩,
    ⟨(some 94), (some (92, true)), .load 5 none (.t 93)⟩,
    ⟨(some 95), (some (92, true)), .faddr (.t 3) 9⟩,
    ⟨(some 96), (some (92, true)), .load 6 none (.t 95)⟩,
    ⟨(some 97), (some (92, true)), .bin .eql (.t 94) (.t 96)⟩,
    ⟨(some 98), none, .pick (.t 92) (.t 97) (.c (.bool false))⟩,
    ⟨(some 99), none, .mv (.t 98)⟩,
    ⟨(some 100), (some (99, true)), .faddr (.t 2) 10⟩,
    ⟨(some 101), (some (99, true)), .load 5 none (.t 100)⟩,
    ⟨(some 102), (some (99, true)), .faddr (.t 3) 10⟩,
    ⟨(some 103), (some (99, true)), .load 6 none (.t 102)⟩,
    ⟨(some 104), (some (99, true)), .bin .eql (.t 101) (.t 103)⟩,
    ⟨(some 105), none, .pick (.t 99) (.t 104) (.c (.bool false))⟩,
    ⟨(some 106), none, .mv (.t 105)⟩,
    ⟨(some 107), (some (106, true)), .faddr (.t 2) 11⟩,
    ⟨(some 108), (some (106, true)), .load 5 none (.t 107)⟩,
    ⟨(some 109), (some (106, true)), .faddr (.t 3) 11⟩,
    ⟨(some 110), (some (106, true)), .load 6 none (.t 109)⟩,
    ⟨(some 111), (some (106, true)), .eqv false false [.b] (.t 108) (.t 110)⟩,
    ⟨(some 112), none, .pick (.t 106) (.t 111) (.c (.bool false))⟩,
    ⟨(some 113), none, .mv (.t 112)⟩,
    ⟨(some 114), (some (113, true)), .faddr (.t 2) 12⟩,
    ⟨(some 115), (some (113, true)), .load 5 none (.t 114)⟩,
    ⟨(some 116), (some (113, true)), .faddr (.t 3) 12⟩,
    ⟨(some 117), (some (113, true)), .load 6 none (.t 116)⟩,
    ⟨(some 118), (some (113, true)), .bin .eql (.t 115) (.t 117)⟩,
    ⟨(some 119), none, .pick (.t 113) (.t 118) (.c (.bool false))⟩,
    ⟨(some 4), none, .mv (.t 119)⟩])
  .ret))))⟩
-- busbarref5.Echo [iso]
def c23 : AFn := ⟨1, [.cell 2 (some 14)], false,
  (.seq (.ins [⟨(some 1), none, .boxv 12 (.t 0)⟩,
    ⟨(some 2), none, .allocv [.int .i64 0, .int .i64 0, .sl 1 [] (some []), .sl 1 [] (some []), .int .i64 0, .int .i64 0, .int .u16 0, .int .u16 0, .int .u16 0, .int .i64 0, .int .i64 0, .bool false, .int .i64 0, .sl 2 [] (some [])]⟩])
  (.seq (.seq (.ins [⟨(some 3), none, .load 4 (some 12) (.t 1)⟩,
    ⟨(some 4), none, .call .iso true 86 [(.t 3)]⟩,
    ⟨(some 5), none, .not (.t 4)⟩])
  (.cond (.t 5)
    (.seq (.ins [⟨(some 6), none, .build [.int .i64 0, .int .i64 0, .sl 1 [] (some []), .sl 1 [] (some []), .int .i64 0, .int .i64 0, .int .u16 0, .int .u16 0, .int .u16 0, .int .i64 0, .int .i64 0, .bool false, .int .i64 0, .sl 2 [] (some [])] []⟩,
      ⟨none, none, .store 5 14 0 (.t 2) (.t 6)⟩])
    .ret)
    .skip))
  (.seq (.seq (.ins [⟨(some 7), none, .faddr (.t 1) 0⟩,
    ⟨(some 8), none, .load 4 none (.t 7)⟩])
  (.block 0 (.seq (.seq (.ins [⟨(some 10), none, .bin .eql (.t 8) (.c (.int .i64 5))⟩,
      ⟨(some 9), none, .mv (.t 10)⟩])
    (.cond (.t 9)
      .skip
      (.ins [⟨(some 11), none, .bin .eql (.t 8) (.c (.int .i64 6))⟩,
        ⟨(some 9), none, .mv (.t 11)⟩])))
    (.cond (.t 9)
      (.seq (.ins [⟨(some 12), none, .faddr (.t 1) 0⟩,
        ⟨(some 13), none, .load 4 none (.t 12)⟩,
        ⟨(some 14), none, .faddr (.t 1) 1⟩,
        ⟨(some 15), none, .load 4 none (.t 14)⟩,
        ⟨(some 16), none, .faddr (.t 1) 3⟩,
        ⟨(some 17), none, .load 4 none (.t 16)⟩,
        ⟨(some 18), none, .build [.int .i64 0, .int .i64 0, .sl 1 [] (some []), .sl 1 [] (some []), .int .i64 0, .int .i64 0, .int .u16 0, .int .u16 0, .int .u16 0, .int .i64 0, .int .i64 0, .bool false, .int .i64 0, .sl 2 [] (some [])] [(0, 1, (.t 13)), (4, 1, (.t 15)), (6, 1, (.t 17))]⟩,
        ⟨none, none, .store 5 14 0 (.t 2) (.t 18)⟩])
      .ret)
      (.seq (.ins [⟨(some 20), none, .bin .eql (.t 8) (.c (.int .i64 22))⟩,
        ⟨(some 19), none, .mv (.t 20)⟩])
      (.cond (.t 19)
        (.seq (.ins [⟨(some 21), none, .faddr (.t 1) 1⟩,
          ⟨(some 22), none, .load 4 none (.t 21)⟩,
          ⟨(some 23), none, .faddr (.t 1) 4⟩,
          ⟨(some 24), none, .load 4 none (.t 23)⟩,
          ⟨(some 25), none, .faddr (.t 1) 5⟩,
          ⟨(some 26), none, .load 4 none (.t 25)⟩,
          ⟨(some 27), none, .build [.int .i64 0, .int .i64 0, .sl 1 [] (some []), .sl 1 [] (some []), .int .i64 0, .int .i64 0, .int .u16 0, .int .u16 0, .int .u16 0, .int .i64 0, .int .i64 0, .bool false, .int .i64 0, .sl 2 [] (some [])] [(0, 1, (.c (.int .i64 22))), (4, 1, (.t 22)), (7, 1, (.t 24)), (8, 1, (.t 26))]⟩,
          ⟨none, none, .store 5 14 0 (.t 2) (.t 27)⟩])
        .ret)
        (.seq (.seq (.ins [⟨(some 29), none, .bin .eql (.t 8) (.c (.int .i64 15))⟩,
          ⟨(some 28), none, .mv (.t 29)⟩])
        (.cond (.t 28)
          .skip
          (.ins [⟨(some 30), none, .bin .eql (.t 8) (.c (.int .i64 16))⟩,
            ⟨(some 28), none, .mv (.t 30)⟩])))
        (.cond (.t 28)
          (.seq (.ins [⟨(some 31), none, .faddr (.t 1) 0⟩,
            ⟨(some 32), none, .load 4 none (.t 31)⟩,
            ⟨(some 33), none, .faddr (.t 1) 1⟩,
            ⟨(some 34), none, .load 4 none (.t 33)⟩,
            ⟨(some 35), none, .faddr (.t 1) 2⟩,
            ⟨(some 36), none, .load 4 none (.t 35)⟩,
            ⟨(some 37), none, .build [.int .i64 0, .int .i64 0, .sl 1 [] (some []), .sl 1 [] (some []), .int .i64 0, .int .i64 0, .int .u16 0, .int .u16 0, .int .u16 0, .int .i64 0, .int .i64 0, .bool false, .int .i64 0, .sl 2 [] (some [])] [(0, 1, (.t 32)), (4, 1, (.t 34)), (5, 1, (.t 36))]⟩,
            ⟨none, none, .store 5 14 0 (.t 2) (.t 37)⟩])
          .ret)
          .skip))))))))
  (.seq (.ins [⟨(some 38), none, .build [.int .i64 0, .int .i64 0, .sl 1 [] (some []), .sl 1 [] (some []), .int .i64 0, .int .i64 0, .int .u16 0, .int .u16 0, .int .u16 0, .int .i64 0, .int .i64 0, .bool false, .int .i64 0, .sl 2 [] (some [])] []⟩,
    ⟨none, none, .store 5 14 0 (.t 2) (.t 38)⟩])
  .ret))))⟩
-- (*sess.Sess).State [ro]
def c24 : AFn := ⟨2, [.cell 4 (some 4)], false,
  (.seq (.ins [⟨(some 4), none, .allocv [.int .i64 0, .int .i64 0, .int .i64 0, .int .u64 0]⟩])
  (.seq (.ins [⟨(some 6), none, .mv (.t 0)⟩,
    ⟨(some 7), none, .nilc (.t 6)⟩,
    ⟨(some 8), none, .faddr (.t 7) 3⟩,
    ⟨(some 9), none, .load 2 none (.t 8)⟩,
    ⟨(some 10), none, .mv (.t 1)⟩,
    ⟨(some 11), none, .lookup false [.i] (.agg [.int .i64 0, .int .i64 0, .int .i64 0, .int .u64 0]) (.t 9) (.t 10) false⟩,
    ⟨(some 12), none, .fld (.t 11) 0 (some 4)⟩,
    ⟨(some 5), none, .allocv [.int .i64 0, .int .i64 0, .int .i64 0, .int .u64 0]⟩,
    ⟨none, none, .store 8 4 0 (.t 5) (.t 12)⟩])
  (.seq (.ins [⟨(some 13), none, .mv (.t 0)⟩,
    ⟨(some 14), none, .nilc (.t 13)⟩,
    ⟨(some 15), none, .faddr (.t 14) 1⟩,
    ⟨(some 16), none, .load 2 none (.t 15)⟩,
    ⟨(some 17), none, .faddr (.t 5) 2⟩,
    ⟨none, none, .store 8 1 0 (.t 17) (.t 16)⟩])
  (.seq (.ins [⟨(some 18), none, .load 8 (some 4) (.t 5)⟩,
    ⟨none, none, .store 7 4 0 (.t 4) (.t 18)⟩])
  .ret))))⟩
-- (*sess.Sess).Engine [ro]
def c25 : AFn := ⟨1, [.tmp 2], false,
  (.seq (.ins [⟨(some 2), none, .mv (.c (.nilp))⟩])
  (.seq (.ins [⟨(some 3), none, .mv (.t 0)⟩,
    ⟨(some 4), none, .nilc (.t 3)⟩,
    ⟨(some 5), none, .faddr (.t 4) 0⟩,
    ⟨(some 6), none, .load 2 none (.t 5)⟩,
    ⟨(some 2), none, .mv (.t 6)⟩])
  .ret))⟩
-- (*txn.Engine).Store [ro]
def c26 : AFn := ⟨1, [.tmp 2], false,
  (.seq (.ins [⟨(some 2), none, .mv (.c (.nilp))⟩])
  (.seq (.ins [⟨(some 3), none, .mv (.t 0)⟩,
    ⟨(some 4), none, .nilc (.t 3)⟩,
    ⟨(some 5), none, .faddr (.t 4) 0⟩,
    ⟨(some 6), none, .load 2 none (.t 5)⟩,
    ⟨(some 2), none, .mv (.t 6)⟩])
  .ret))⟩
-- (*store.Store).Last [ro]
def c27 : AFn := ⟨1, [.tmp 2], false,
  (.seq (.ins [⟨(some 2), none, .mv (.c (.int .u64 0))⟩])
  (.seq (.ins [⟨(some 3), none, .mv (.t 0)⟩,
    ⟨(some 4), none, .nilc (.t 3)⟩,
    ⟨(some 5), none, .faddr (.t 4) 0⟩,
    ⟨(some 6), none, .load 2 none (.t 5)⟩,
    ⟨(some 2), none, .mv (.t 6)⟩])
  .ret))⟩
-- busbarlaw0.Conf [iso]
def c28 : AFn := ⟨1, [.cell 2 (some 13)], false,
  (.seq (.ins [⟨(some 2), none, .allocv [.sl 3 [] (some []), .sl 3 [] (some []), .int .i64 0, .int .i64 0, .int .i64 0, .int .i64 0, .int .i64 0, .int .i64 0, .int .i64 0, .int .i64 0, .int .i64 0, .int .u64 0, .sl 2 [] (some [])]⟩])
  (.seq (.ins [⟨(some 4), none, .call .ro true 87 []⟩,
    ⟨(some 3), none, .allocv [.sl 3 [] (some []), .sl 3 [] (some []), .int .i64 0, .int .i64 0, .int .i64 0, .int .i64 0, .int .i64 0, .int .i64 0, .int .i64 0, .int .i64 0, .int .i64 0, .int .u64 0, .sl 2 [] (some [])]⟩,
    ⟨none, none, .store 6 13 0 (.t 3) (.t 4)⟩])
  (.seq (.ins [⟨(some 5), none, .build [.int .i64 0, .int .i64 0, .int .i64 0] [(0, 1, (.c (.int .i64 0))), (1, 1, (.c (.int .i64 0))), (2, 1, (.c (.int .i64 40)))]⟩,
    ⟨(some 6), none, .build [.int .i64 0, .int .i64 0, .int .i64 0] [(0, 1, (.c (.int .i64 1))), (1, 1, (.c (.int .i64 0))), (2, 1, (.c (.int .i64 40)))]⟩,
    ⟨(some 7), none, .build [.int .i64 0, .int .i64 0, .int .i64 0] [(0, 1, (.c (.int .i64 2))), (1, 1, (.c (.int .i64 0))), (2, 1, (.c (.int .i64 20)))]⟩,
    ⟨(some 8), none, .build [.int .i64 0, .int .i64 0, .int .i64 0] [(0, 1, (.c (.int .i64 2))), (1, 1, (.c (.int .i64 24))), (2, 1, (.c (.int .i64 40)))]⟩,
    ⟨(some 9), none, .build [.int .i64 0, .int .i64 0, .int .i64 0] [(0, 1, (.c (.int .i64 3))), (1, 1, (.c (.int .i64 0))), (2, 1, (.c (.int .i64 40)))]⟩,
    ⟨(some 10), none, .bsl 3 [.int .i64 0, .int .i64 0, .int .i64 0] 5 [(0, (.t 5)), (1, (.t 6)), (2, (.t 7)), (3, (.t 8)), (4, (.t 9))]⟩,
    ⟨(some 11), none, .faddr (.t 3) 0⟩,
    ⟨none, none, .store 6 1 0 (.t 11) (.t 10)⟩])
  (.seq (.ins [⟨(some 12), none, .build [.int .i64 0, .int .i64 0, .int .i64 0] [(0, 1, (.c (.int .i64 2))), (1, 1, (.c (.int .i64 4))), (2, 1, (.c (.int .i64 2)))]⟩,
    ⟨(some 13), none, .build [.int .i64 0, .int .i64 0, .int .i64 0] [(0, 1, (.c (.int .i64 2))), (1, 1, (.c (.int .i64 8))), (2, 1, (.c (.int .i64 4)))]⟩,
    ⟨(some 14), none, .build [.int .i64 0, .int .i64 0, .int .i64 0] [(0, 1, (.c (.int .i64 3))), (1, 1, (.c (.int .i64 4))), (2, 1, (.c (.int .i64 4)))]⟩,
    ⟨(some 15), none, .bsl 3 [.int .i64 0, .int .i64 0, .int .i64 0] 3 [(0, (.t 12)), (1, (.t 13)), (2, (.t 14))]⟩,
    ⟨(some 16), none, .faddr (.t 3) 1⟩,
    ⟨none, none, .store 6 1 0 (.t 16) (.t 15)⟩])
  (.seq (.ins [⟨(some 17), none, .faddr (.t 3) 2⟩,
    ⟨none, none, .store 6 1 0 (.t 17) (.c (.int .i64 100))⟩])
  (.seq (.ins [⟨(some 18), none, .mv (.t 0)⟩,
    ⟨(some 19), none, .call .iso true 88 [(.t 18), (.c (.int .i64 0))]⟩,
    ⟨(some 20), none, .call .iso false 18 [(.t 19), (.c (.int .i64 12))]⟩,
    ⟨(some 21), none, .bin .add (.c (.int .i64 1)) (.t 20)⟩,
    ⟨(some 22), none, .faddr (.t 3) 3⟩,
    ⟨none, none, .store 6 1 0 (.t 22) (.t 21)⟩])
  (.seq (.ins [⟨(some 23), none, .mv (.t 0)⟩,
    ⟨(some 24), none, .call .iso true 88 [(.t 23), (.c (.int .i64 0))]⟩,
    ⟨(some 25), none, .call .iso false 20 [(.t 24), (.c (.int .i64 12)), (.c (.int .i64 5))]⟩,
    ⟨(some 26), none, .faddr (.t 3) 5⟩,
    ⟨none, none, .store 6 1 0 (.t 26) (.t 25)⟩])
  (.seq (.ins [⟨(some 27), none, .faddr (.t 3) 6⟩,
    ⟨none, none, .store 6 1 0 (.t 27) (.c (.int .i64 2000))⟩])
  (.seq (.ins [⟨(some 28), none, .mv (.t 0)⟩,
    ⟨(some 29), none, .call .iso true 88 [(.t 28), (.c (.int .i64 1))]⟩,
    ⟨(some 30), none, .call .iso false 18 [(.t 29), (.c (.int .i64 6))]⟩,
    ⟨(some 31), none, .bin .add (.c (.int .i64 1)) (.t 30)⟩,
    ⟨(some 32), none, .faddr (.t 3) 7⟩,
    ⟨none, none, .store 6 1 0 (.t 32) (.t 31)⟩])
  (.seq (.ins [⟨(some 33), none, .mv (.t 0)⟩,
    ⟨(some 34), none, .call .iso true 88 [(.t 33), (.c (.int .i64 1))]⟩,
    ⟨(some 35), none, .call .iso false 20 [(.t 34), (.c (.int .i64 6)), (.c (.int .i64 20))]⟩,
    ⟨(some 36), none, .bin .add (.c (.int .i64 1)) (.t 35)⟩,
    ⟨(some 37), none, .faddr (.t 3) 8⟩,
    ⟨none, none, .store 6 1 0 (.t 37) (.t 36)⟩])
  (.seq (.seq (.ins [⟨(some 38), none, .mv (.t 0)⟩,
    ⟨(some 39), none, .call .iso true 88 [(.t 38), (.c (.int .i64 1))]⟩,
    ⟨(some 40), none, .call .iso false 20 [(.t 39), (.c (.int .i64 120)), (.c (.int .i64 3))]⟩,
    ⟨(some 41), none, .bin .gtr (.t 40) (.c (.int .i64 0))⟩])
  (.cond (.t 41)
    (.ins [⟨(some 42), none, .faddr (.t 3) 7⟩,
      ⟨none, none, .store 6 1 0 (.t 42) (.c (.int .i64 50))⟩,
      ⟨(some 43), none, .faddr (.t 3) 8⟩,
      ⟨none, none, .store 6 1 0 (.t 43) (.c (.int .i64 500))⟩])
    .skip))
  (.seq (.seq (.ins [⟨(some 44), none, .mv (.t 0)⟩,
    ⟨(some 45), none, .call .iso true 88 [(.t 44), (.c (.int .i64 2))]⟩,
    ⟨(some 46), none, .call .iso false 18 [(.t 45), (.c (.int .i64 4))]⟩,
    ⟨(some 47), none, .bin .eql (.t 46) (.c (.int .i64 0))⟩])
  (.cond (.t 47)
    (.ins [⟨(some 48), none, .mv (.t 0)⟩,
      ⟨(some 49), none, .call .iso true 88 [(.t 48), (.c (.int .i64 2))]⟩,
      ⟨(some 50), none, .call .iso false 20 [(.t 49), (.c (.int .i64 4)), (.c (.int .i64 60))]⟩,
      ⟨(some 51), none, .faddr (.t 3) 6⟩,
      ⟨none, none, .store 6 1 0 (.t 51) (.t 50)⟩])
    .skip))
  (.seq (.ins [⟨(some 52), none, .mv (.t 0)⟩,
    ⟨(some 53), none, .call .iso true 88 [(.t 52), (.c (.int .i64 2))]⟩,
    ⟨(some 54), none, .call .iso false 20 [(.t 53), (.c (.int .i64 240)), (.c (.int .i64 6))]⟩,
    ⟨(some 55), none, .bin .add (.c (.int .i64 1)) (.t 54)⟩,
    ⟨(some 56), none, .faddr (.t 3) 4⟩,
    ⟨none, none, .store 6 1 0 (.t 56) (.t 55)⟩])
  (.seq (.ins [⟨(some 57), none, .mv (.t 0)⟩,
    ⟨(some 58), none, .call .iso true 88 [(.t 57), (.c (.int .i64 3))]⟩,
    ⟨(some 59), none, .call .iso false 18 [(.t 58), (.c (.int .i64 9))]⟩,
    ⟨(some 60), none, .convi .u64 (.t 59)⟩,
    ⟨(some 61), none, .faddr (.t 3) 11⟩,
    ⟨none, none, .store 6 1 0 (.t 61) (.t 60)⟩])
  (.seq (.seq (.ins [⟨(some 62), none, .mv (.t 0)⟩,
    ⟨(some 63), none, .call .iso true 88 [(.t 62), (.c (.int .i64 3))]⟩,
    ⟨(some 64), none, .call .iso false 20 [(.t 63), (.c (.int .i64 9)), (.c (.int .i64 6))]⟩,
    ⟨(some 65), none, .bin .eql (.t 64) (.c (.int .i64 0))⟩])
  (.cond (.t 65)
    (.ins [⟨(some 66), none, .faddr (.t 3) 11⟩,
      ⟨(some 67), none, .load 6 none (.t 66)⟩,
      ⟨(some 68), none, .bin .sub (.c (.int .u64 18446744073709551615)) (.t 67)⟩,
      ⟨(some 69), none, .faddr (.t 3) 11⟩,
      ⟨none, none, .store 6 1 0 (.t 69) (.t 68)⟩])
    .skip))
  (.seq (.ins [⟨(some 70), none, .load 6 (some 13) (.t 3)⟩,
    ⟨none, none, .store 5 13 0 (.t 2) (.t 70)⟩])
  .ret))))))))))))))))⟩
-- busbarref21.Sessions [rw]
def c65 : AFn := ⟨2, [.tmp 4], false,
  (.seq (.ins [⟨(some 4), none, .mv (.c (.nilp))⟩])
  (.seq (.ins [⟨(some 5), none, .mv (.t 0)⟩,
    ⟨(some 6), none, .mv (.t 1)⟩,
    ⟨(some 7), none, .call .rw false 140 [(.t 6)]⟩,
    ⟨(some 8), none, .build [.nilp, .nilp, .sl 5 [] (some [])] [(0, 1, (.t 5)), (1, 1, (.t 7))]⟩,
    ⟨(some 9), none, .boxh 3 false (.t 8)⟩,
    ⟨(some 4), none, .mv (.t 9)⟩])
  .ret))⟩
-- busbarref21.New [rw]
def c66 : AFn := ⟨4, [.tmp 8], false,
  (.seq (.ins [⟨(some 8), none, .mv (.c (.nilp))⟩])
  (.seq (.ins [⟨(some 9), none, .mv (.t 0)⟩,
    ⟨(some 10), none, .mv (.t 1)⟩,
    ⟨(some 11), none, .max [(.t 10), (.c (.int .i64 0))]⟩,
    ⟨(some 12), none, .mv (.t 2)⟩,
    ⟨(some 13), none, .max [(.t 12), (.c (.int .i64 0))]⟩,
    ⟨(some 14), none, .mv (.t 3)⟩,
    ⟨(some 15), none, .max [(.t 14), (.c (.int .i64 0))]⟩,
    ⟨(some 16), none, .build [.nilp, .int .i64 0, .int .i64 0, .int .i64 0, .sl 4 [] (some [])] [(0, 1, (.t 9)), (1, 1, (.t 11)), (2, 1, (.t 13)), (3, 1, (.t 15))]⟩,
    ⟨(some 17), none, .boxh 5 false (.t 16)⟩,
    ⟨(some 8), none, .mv (.t 17)⟩])
  .ret))⟩
-- busbarref16.New [rw]
def c67 : AFn := ⟨2, [.tmp 4], false,
  (.seq (.ins [⟨(some 4), none, .mv (.c (.nilp))⟩])
  (.seq (.ins [⟨(some 5), none, .mv (.t 0)⟩,
    ⟨(some 6), none, .mv (.t 1)⟩,
    ⟨(some 7), none, .max [(.t 6), (.c (.int .i64 0))]⟩,
    ⟨(some 8), none, .min [(.t 7), (.c (.int .i64 1048576))]⟩,
    ⟨(some 9), none, .build [.int .u64 0, .int .i64 0, .sl 3 [] (some [])] [(0, 1, (.t 5)), (1, 1, (.t 8))]⟩,
    ⟨(some 10), none, .boxh 3 false (.t 9)⟩,
    ⟨(some 4), none, .mv (.t 10)⟩])
  .ret))⟩
-- store.New [rw]
def c68 : AFn := ⟨2, [.tmp 4], false,
  (.seq (.ins [⟨(some 4), none, .mv (.c (.nilp))⟩])
  (.seq (.ins [⟨(some 5), none, .mv (.t 0)⟩,
    ⟨(some 6), none, .mv (.t 1)⟩,
    ⟨(some 7), none, .max [(.t 6), (.c (.int .i64 0))]⟩,
    ⟨(some 8), none, .min [(.t 7), (.c (.int .i64 1048576))]⟩,
    ⟨(some 9), none, .mkmap none⟩,
    ⟨(some 10), none, .build [.int .u64 0, .int .i64 0, .int .i64 0, .nilm] [(0, 1, (.t 5)), (2, 1, (.t 8)), (3, 1, (.t 9))]⟩,
    ⟨(some 11), none, .boxh 4 false (.t 10)⟩,
    ⟨(some 4), none, .mv (.t 11)⟩])
  .ret))⟩
-- txn.New [rw]
def c69 : AFn := ⟨4, [.tmp 8], false,
  (.seq (.ins [⟨(some 8), none, .mv (.c (.nilp))⟩])
  (.seq (.ins [⟨(some 9), none, .mv (.t 0)⟩,
    ⟨(some 10), none, .mv (.t 1)⟩,
    ⟨(some 11), none, .max [(.t 10), (.c (.int .i64 0))]⟩,
    ⟨(some 12), none, .mv (.t 2)⟩,
    ⟨(some 13), none, .max [(.t 12), (.c (.int .i64 0))]⟩,
    ⟨(some 14), none, .mv (.t 3)⟩,
    ⟨(some 15), none, .max [(.t 14), (.c (.int .i64 0))]⟩,
    ⟨(some 16), none, .mkmap none⟩,
    ⟨(some 17), none, .build [.nilp, .int .i64 0, .int .i64 0, .int .i64 0, .nilm] [(0, 1, (.t 9)), (1, 1, (.t 11)), (2, 1, (.t 13)), (3, 1, (.t 15)), (4, 1, (.t 16))]⟩,
    ⟨(some 18), none, .boxh 5 false (.t 17)⟩,
    ⟨(some 8), none, .mv (.t 18)⟩])
  .ret))⟩
-- sess.New [rw]
def c70 : AFn := ⟨2, [.tmp 4], false,
  (.seq (.ins [⟨(some 4), none, .mv (.c (.nilp))⟩])
  (.seq (.ins [⟨(some 5), none, .mv (.t 1)⟩,
    ⟨(some 6), none, .max [(.t 5), (.c (.int .i64 1))]⟩,
    ⟨(some 7), none, .min [(.t 6), (.c (.int .i64 65535))]⟩,
    ⟨(some 1), none, .mv (.t 7)⟩])
  (.seq (.ins [⟨(some 8), none, .mv (.t 0)⟩,
    ⟨(some 9), none, .mv (.t 1)⟩,
    ⟨(some 10), none, .mv (.t 1)⟩,
    ⟨(some 11), none, .call .rw false 141 [(.t 10)]⟩,
    ⟨(some 12), none, .mkmap none⟩,
    ⟨(some 13), none, .build [.nilp, .int .i64 0, .nilp, .nilm] [(0, 1, (.t 8)), (1, 1, (.t 9)), (2, 1, (.t 11)), (3, 1, (.t 12))]⟩,
    ⟨(some 14), none, .boxh 4 false (.t 13)⟩,
    ⟨(some 4), none, .mv (.t 14)⟩])
  .ret)))⟩
-- ask.Right [iso]
def c71 : AFn := ⟨1, [.tmp 2], false,
  (.seq (.ins [⟨(some 1), none, .boxv 12 (.t 0)⟩,
    ⟨(some 2), none, .mv (.c (.bool false))⟩])
  (.seq (.seq (.ins [⟨(some 5), none, .faddr (.t 1) 0⟩,
    ⟨(some 6), none, .load 4 none (.t 5)⟩,
    ⟨(some 7), none, .call .iso false 142 [(.t 6)]⟩,
    ⟨(some 8), none, .not (.t 7)⟩,
    ⟨(some 9), none, .mv (.t 8)⟩,
    ⟨(some 10), (some (9, false)), .load 4 (some 12) (.t 1)⟩,
    ⟨(some 11), (some (9, false)), .call .iso true 143 [(.t 10)]⟩,
    ⟨(some 12), (some (9, false)), .load 4 (some 12) (.t 1)⟩,
    ⟨(some 13), (some (9, false)), .call .ro true 144 [(.t 12)]⟩,
    ⟨(some 14), (some (9, false)), .call .iso true 143 [(.t 13)]⟩,
    ⟨(some 15), (some (9, false)), .eqv true true [.i, .i, .i, .i, .i, .i, .i, .i, .i, .i, .i] (.t 11) (.t 14)⟩,
    ⟨(some 16), none, .pick (.t 9) (.c (.bool true)) (.t 15)⟩,
    ⟨(some 17), none, .mv (.t 16)⟩,
    ⟨(some 18), (some (17, false)), .faddr (.t 1) 1⟩,
    ⟨(some 19), (some (17, false)), .load 4 none (.t 18)⟩,
    ⟨(some 20), (some (17, false)), .call .iso false 145 [(.t 19)]⟩,
    ⟨(some 21), (some (17, false)), .not (.t 20)⟩,
    ⟨(some 22), none, .pick (.t 17) (.c (.bool true)) (.t 21)⟩,
    ⟨(some 23), none, .mv (.t 22)⟩,
    ⟨(some 24), (some (23, false)), .faddr (.t 1) 8⟩,
    ⟨(some 25), (some (23, false)), .load 4 none (.t 24)⟩,
    ⟨(some 26), (some (23, false)), .call .iso false 145 [(.t 25)]⟩,
    ⟨(some 27), (some (23, false)), .not (.t 26)⟩,
    ⟨(some 28), none, .pick (.t 23) (.c (.bool true)) (.t 27)⟩])
  (.cond (.t 28)
    (.seq (.ins [⟨(some 2), none, .mv (.c (.bool false))⟩])
    .ret)
    .skip))
  (.seq (.ins [⟨(some 30), none, .faddr (.t 1) 0⟩,
    ⟨(some 31), none, .load 4 none (.t 30)⟩,
    ⟨(some 32), none, .call .iso false 146 [(.t 31)]⟩,
    ⟨(some 29), none, .mv (.t 32)⟩,
    ⟨(some 33), none, .ext (.t 29) 0⟩,
    ⟨(some 34), none, .ext (.t 29) 1⟩,
    ⟨(some 3), none, .mv (.t 33)⟩,
    ⟨(some 4), none, .mv (.t 34)⟩])
  (.seq (.seq (.ins [⟨(some 35), none, .faddr (.t 1) 0⟩,
    ⟨(some 36), none, .load 4 none (.t 35)⟩])
  (.block 0 (.seq (.block 6 (.seq (.block 5 (.seq (.block 4 (.seq (.block 3 (.seq (.block 2 (.seq (.block 1 (.seq (.seq (.seq (.seq (.ins [⟨(some 38), none, .bin .eql (.t 36) (.c (.int .i64 1))⟩,
                  ⟨(some 37), none, .mv (.t 38)⟩])
                (.cond (.t 37)
                  .skip
                  (.seq (.ins [⟨(some 39), none, .bin .eql (.t 36) (.c (.int .i64 2))⟩,
                    ⟨(some 37), none, .mv (.t 39)⟩])
                  (.cond (.t 37)
                    .skip
                    (.seq (.ins [⟨(some 40), none, .bin .eql (.t 36) (.c (.int .i64 3))⟩,
                      ⟨(some 37), none, .mv (.t 40)⟩])
                    (.cond (.t 37)
                      .skip
                      (.ins [⟨(some 41), none, .bin .eql (.t 36) (.c (.int .i64 4))⟩,
                        ⟨(some 37), none, .mv (.t 41)⟩])))))))
                (.cond (.t 37)
                  (.exit 1)
                  .skip))
                (.seq (.seq (.ins [⟨(some 43), none, .bin .eql (.t 36) (.c (.int .i64 5))⟩,
                  ⟨(some 42), none, .mv (.t 43)⟩])
                (.cond (.t 42)
                  (.exit 2)
                  .skip))
                (.seq (.seq (.ins [⟨(some 45), none, .bin .eql (.t 36) (.c (.int .i64 15))⟩,
                  ⟨(some 44), none, .mv (.t 45)⟩])
                (.cond (.t 44)
                  (.exit 3)
                  .skip))
                (.seq (.seq (.ins [⟨(some 47), none, .bin .eql (.t 36) (.c (.int .i64 23))⟩,
                  ⟨(some 46), none, .mv (.t 47)⟩])
                (.cond (.t 46)
                  (.exit 4)
                  .skip))
                (.seq (.seq (.ins [⟨(some 49), none, .bin .eql (.t 36) (.c (.int .i64 16))⟩,
                  ⟨(some 48), none, .mv (.t 49)⟩])
                (.cond (.t 48)
                  (.exit 5)
                  .skip))
                (.seq (.ins [⟨(some 51), none, .bin .eql (.t 36) (.c (.int .i64 43))⟩,
                  ⟨(some 50), none, .mv (.t 51)⟩])
                (.cond (.t 50)
                  (.exit 6)
                  .skip)))))))
                (.exit 0)))
              (.seq (.seq (.ins [⟨(some 52), none, .faddr (.t 1) 2⟩,
                ⟨(some 53), none, .load 4 none (.t 52)⟩,
                ⟨(some 54), none, .mv (.t 3)⟩,
                ⟨(some 55), none, .call .iso false 147 [(.t 53), (.t 54)]⟩,
                ⟨(some 2), none, .mv (.t 55)⟩])
              .ret)
              (.exit 0))))
            (.seq (.seq (.ins [⟨(some 56), none, .faddr (.t 1) 3⟩,
              ⟨(some 57), none, .load 4 none (.t 56)⟩,
              ⟨(some 58), none, .bin .leq (.t 57) (.c (.int .u16 1))⟩,
              ⟨(some 2), none, .mv (.t 58)⟩])
            .ret)
            (.exit 0))))
          (.seq (.seq (.ins [⟨(some 59), none, .faddr (.t 1) 2⟩,
            ⟨(some 60), none, .load 4 none (.t 59)⟩,
            ⟨(some 61), none, .mv (.t 4)⟩,
            ⟨(some 62), none, .call .iso false 147 [(.t 60), (.t 61)]⟩,
            ⟨(some 63), none, .mv (.t 62)⟩,
            ⟨(some 64), (some (63, true)), .faddr (.t 1) 6⟩,
            ⟨(some 65), (some (63, true)), .load 4 none (.t 64)⟩,
            ⟨(some 66), (some (63, true)), .len (.t 65)⟩,
            ⟨(some 67), (some (63, true)), .faddr (.t 1) 2⟩,
            ⟨(some 68), (some (63, true)), .load 4 none (.t 67)⟩,
            ⟨(some 69), (some (63, true)), .bin .eql (.t 66) (.t 68)⟩,
            ⟨(some 70), none, .pick (.t 63) (.t 69) (.c (.bool false))⟩,
            ⟨(some 2), none, .mv (.t 70)⟩])
          .ret)
          (.exit 0))))
        (.seq (.ins [⟨(some 71), none, .faddr (.t 1) 9⟩,
          ⟨(some 72), none, .load 4 none (.t 71)⟩,
          ⟨(some 73), none, .mv (.t 3)⟩,
          ⟨(some 74), none, .call .iso false 147 [(.t 72), (.t 73)]⟩,
          ⟨(some 75), none, .not (.t 74)⟩])
        (.cond (.t 75)
          (.seq (.ins [⟨(some 2), none, .mv (.c (.bool false))⟩])
          .ret)
          .skip))))
      (.seq (.seq (.ins [⟨(some 76), none, .faddr (.t 1) 2⟩,
        ⟨(some 77), none, .load 4 none (.t 76)⟩,
        ⟨(some 78), none, .mv (.t 4)⟩,
        ⟨(some 79), none, .call .iso false 147 [(.t 77), (.t 78)]⟩,
        ⟨(some 80), none, .mv (.t 79)⟩,
        ⟨(some 81), (some (80, true)), .faddr (.t 1) 7⟩,
        ⟨(some 82), (some (80, true)), .load 4 none (.t 81)⟩,
        ⟨(some 83), (some (80, true)), .len (.t 82)⟩,
        ⟨(some 84), (some (80, true)), .faddr (.t 1) 2⟩,
        ⟨(some 85), (some (80, true)), .load 4 none (.t 84)⟩,
        ⟨(some 86), (some (80, true)), .bin .eql (.t 83) (.t 85)⟩,
        ⟨(some 87), none, .pick (.t 80) (.t 86) (.c (.bool false))⟩,
        ⟨(some 2), none, .mv (.t 87)⟩])
      .ret)
      (.exit 0))))
    (.seq (.seq (.ins [⟨(some 88), none, .faddr (.t 1) 10⟩,
      ⟨(some 89), none, .load 4 none (.t 88)⟩,
      ⟨(some 90), none, .call .iso false 147 [(.t 89), (.c (.int .i64 4))]⟩,
      ⟨(some 91), none, .mv (.t 90)⟩,
      ⟨(some 92), (some (91, true)), .faddr (.t 1) 11⟩,
      ⟨(some 93), (some (91, true)), .load 4 none (.t 92)⟩,
      ⟨(some 94), (some (91, true)), .bin .geq (.t 93) (.c (.int .i64 0))⟩,
      ⟨(some 95), none, .pick (.t 91) (.t 94) (.c (.bool false))⟩,
      ⟨(some 96), none, .mv (.t 95)⟩,
      ⟨(some 97), (some (96, true)), .faddr (.t 1) 11⟩,
      ⟨(some 98), (some (96, true)), .load 4 none (.t 97)⟩,
      ⟨(some 99), (some (96, true)), .bin .leq (.t 98) (.c (.int .i64 255))⟩,
      ⟨(some 100), none, .pick (.t 96) (.t 99) (.c (.bool false))⟩,
      ⟨(some 2), none, .mv (.t 100)⟩])
    .ret)
    (.exit 0)))))
  (.seq (.ins [⟨(some 2), none, .mv (.c (.bool true))⟩])
  .ret)))))⟩
-- tell.Fail [iso]
def c72 : AFn := ⟨2, [.cell 4 (some 14)], false,
  (.seq (.ins [⟨(some 4), none, .allocv [.int .i64 0, .int .i64 0, .sl 1 [] (some []), .sl 1 [] (some []), .int .i64 0, .int .i64 0, .int .u16 0, .int .u16 0, .int .u16 0, .int .i64 0, .int .i64 0, .bool false, .int .i64 0, .sl 2 [] (some [])]⟩])
  (.seq (.ins [⟨(some 5), none, .mv (.t 0)⟩,
    ⟨(some 6), none, .mv (.t 1)⟩,
    ⟨(some 7), none, .build [.int .i64 0, .int .i64 0, .sl 1 [] (some []), .sl 1 [] (some []), .int .i64 0, .int .i64 0, .int .u16 0, .int .u16 0, .int .u16 0, .int .i64 0, .int .i64 0, .bool false, .int .i64 0, .sl 2 [] (some [])] [(0, 1, (.t 5)), (1, 1, (.t 6))]⟩,
    ⟨none, none, .store 7 14 0 (.t 4) (.t 7)⟩])
  .ret))⟩
-- ask.Spans [iso]
def c74 : AFn := ⟨1, [.tmp 2, .tmp 3], false,
  (.seq (.ins [⟨(some 1), none, .boxv 12 (.t 0)⟩,
    ⟨(some 2), none, .mv (.c (.sl 3 [] (some [])))⟩,
    ⟨(some 3), none, .mv (.c (.sl 3 [] (some [])))⟩])
  (.seq (.seq (.ins [⟨(some 7), none, .load 4 (some 12) (.t 1)⟩,
    ⟨(some 8), none, .call .iso true 71 [(.t 7)]⟩,
    ⟨(some 9), none, .not (.t 8)⟩])
  (.cond (.t 9)
    (.seq (.ins [⟨(some 2), none, .mv (.c (.sl 3 [] (some [])))⟩,
      ⟨(some 3), none, .mv (.c (.sl 3 [] (some [])))⟩])
    .ret)
    .skip))
  (.seq (.ins [⟨(some 11), none, .faddr (.t 1) 0⟩,
    ⟨(some 12), none, .load 4 none (.t 11)⟩,
    ⟨(some 13), none, .call .iso false 149 [(.t 12)]⟩,
    ⟨(some 10), none, .mv (.t 13)⟩,
    ⟨(some 14), none, .ext (.t 10) 0⟩,
    ⟨(some 15), none, .ext (.t 10) 1⟩,
    ⟨(some 4), none, .mv (.t 14)⟩,
    ⟨(some 5), none, .mv (.t 15)⟩])
  (.seq (.ins [⟨(some 16), none, .mv (.t 4)⟩,
    ⟨(some 17), none, .faddr (.t 1) 1⟩,
    ⟨(some 18), none, .load 4 none (.t 17)⟩,
    ⟨(some 19), none, .faddr (.t 1) 1⟩,
    ⟨(some 20), none, .load 4 none (.t 19)⟩,
    ⟨(some 21), none, .faddr (.t 1) 2⟩,
    ⟨(some 22), none, .load 4 none (.t 21)⟩,
    ⟨(some 23), none, .bin .add (.t 20) (.t 22)⟩,
    ⟨(some 24), none, .build [.int .i64 0, .int .i64 0, .int .i64 0] [(0, 1, (.t 16)), (1, 1, (.t 18)), (2, 1, (.t 23))]⟩,
    ⟨(some 25), none, .bsl 3 [.int .i64 0, .int .i64 0, .int .i64 0] 1 [(0, (.t 24))]⟩,
    ⟨(some 6), none, .mv (.t 25)⟩])
  (.seq (.seq (.ins [⟨(some 26), none, .faddr (.t 1) 0⟩,
    ⟨(some 27), none, .load 4 none (.t 26)⟩])
  (.block 0 (.seq (.block 4 (.seq (.block 3 (.seq (.block 2 (.seq (.block 1 (.seq (.seq (.seq (.seq (.ins [⟨(some 29), none, .bin .eql (.t 27) (.c (.int .i64 1))⟩,
              ⟨(some 28), none, .mv (.t 29)⟩])
            (.cond (.t 28)
              .skip
              (.seq (.ins [⟨(some 30), none, .bin .eql (.t 27) (.c (.int .i64 2))⟩,
                ⟨(some 28), none, .mv (.t 30)⟩])
              (.cond (.t 28)
                .skip
                (.seq (.ins [⟨(some 31), none, .bin .eql (.t 27) (.c (.int .i64 3))⟩,
                  ⟨(some 28), none, .mv (.t 31)⟩])
                (.cond (.t 28)
                  .skip
                  (.ins [⟨(some 32), none, .bin .eql (.t 27) (.c (.int .i64 4))⟩,
                    ⟨(some 28), none, .mv (.t 32)⟩])))))))
            (.cond (.t 28)
              (.exit 1)
              .skip))
            (.seq (.seq (.ins [⟨(some 34), none, .bin .eql (.t 27) (.c (.int .i64 23))⟩,
              ⟨(some 33), none, .mv (.t 34)⟩])
            (.cond (.t 33)
              (.exit 2)
              .skip))
            (.seq (.seq (.seq (.ins [⟨(some 36), none, .bin .eql (.t 27) (.c (.int .i64 15))⟩,
              ⟨(some 35), none, .mv (.t 36)⟩])
            (.cond (.t 35)
              .skip
              (.ins [⟨(some 37), none, .bin .eql (.t 27) (.c (.int .i64 16))⟩,
                ⟨(some 35), none, .mv (.t 37)⟩])))
            (.cond (.t 35)
              (.exit 3)
              .skip))
            (.seq (.seq (.ins [⟨(some 39), none, .bin .eql (.t 27) (.c (.int .i64 5))⟩,
              ⟨(some 38), none, .mv (.t 39)⟩])
            (.cond (.t 38)
              .skip
              (.seq (.ins [⟨(some 40), none, .bin .eql (.t 27) (.c (.int .i64 6))⟩,
                ⟨(some 38), none, .mv (.t 40)⟩])
              (.cond (.t 38)
                .skip
                (.ins [⟨(some 41), none, .bin .eql (.t 27) (.c (.int .i64 22))⟩,
                  ⟨(some 38), none, .mv (.t 41)⟩])))))
            (.cond (.t 38)
              (.exit 4)
              .skip)))))
            (.exit 0)))
          (.seq (.seq (.ins [⟨(some 42), none, .mv (.t 6)⟩,
            ⟨(some 2), none, .mv (.t 42)⟩,
            ⟨(some 3), none, .mv (.c (.sl 3 [] (some [])))⟩])
          .ret)
          (.exit 0))))
        (.ins [⟨(some 43), none, .mv (.t 4)⟩,
          ⟨(some 44), none, .faddr (.t 1) 8⟩,
          ⟨(some 45), none, .load 4 none (.t 44)⟩,
          ⟨(some 46), none, .faddr (.t 1) 8⟩,
          ⟨(some 47), none, .load 4 none (.t 46)⟩,
          ⟨(some 48), none, .faddr (.t 1) 9⟩,
          ⟨(some 49), none, .load 4 none (.t 48)⟩,
          ⟨(some 50), none, .bin .add (.t 47) (.t 49)⟩,
          ⟨(some 51), none, .build [.int .i64 0, .int .i64 0, .int .i64 0] [(0, 1, (.t 43)), (1, 1, (.t 45)), (2, 1, (.t 50))]⟩,
          ⟨(some 52), none, .bsl 3 [.int .i64 0, .int .i64 0, .int .i64 0] 1 [(0, (.t 51))]⟩,
          ⟨(some 2), none, .mv (.t 52)⟩])))
      (.seq (.ins [⟨(some 53), none, .mv (.t 6)⟩,
        ⟨(some 3), none, .mv (.t 53)⟩])
      (.exit 0))))
    (.seq (.ins [⟨(some 54), none, .mv (.t 4)⟩,
      ⟨(some 55), none, .faddr (.t 1) 1⟩,
      ⟨(some 56), none, .load 4 none (.t 55)⟩,
      ⟨(some 57), none, .faddr (.t 1) 1⟩,
      ⟨(some 58), none, .load 4 none (.t 57)⟩,
      ⟨(some 59), none, .bin .add (.t 58) (.c (.int .i64 1))⟩,
      ⟨(some 60), none, .build [.int .i64 0, .int .i64 0, .int .i64 0] [(0, 1, (.t 54)), (1, 1, (.t 56)), (2, 1, (.t 59))]⟩,
      ⟨(some 61), none, .bsl 3 [.int .i64 0, .int .i64 0, .int .i64 0] 1 [(0, (.t 60))]⟩,
      ⟨(some 3), none, .mv (.t 61)⟩])
    (.exit 0)))))
  (.seq (.ins [⟨(some 62), none, .mv (.t 2)⟩,
    ⟨(some 63), none, .mv (.t 3)⟩,
    ⟨(some 2), none, .mv (.t 62)⟩,
    ⟨(some 3), none, .mv (.t 63)⟩])
  .ret))))))⟩
-- slices.Concat[[]api.Span,api.Span] [iso]
def c75 : AFn := ⟨1, [.tmp 2], true,
  (.seq (.ins [⟨(some 2), none, .mv (.c (.sl 3 [] (some [])))⟩])
  (.seq (.ins [⟨(some 3), none, .mv (.c (.int .i64 0))⟩])
  (.seq (.seq (.ins [⟨(some 9), none, .mv (.t 0)⟩,
    ⟨(some 10), none, .len (.t 9)⟩,
    ⟨(some 11), none, .mv (.c (.int .i64 0))⟩])
  (.block 0 (.loop (.seq (.ins [⟨(some 12), none, .bin .lss (.t 11) (.t 10)⟩])
      (.seq (.cond (.t 12)
        .skip
        (.exit 0))
      (.seq (.block 1 (.seq (.ins [⟨(some 13), none, .iaddr 1 (.t 9) (.t 11)⟩,
          ⟨(some 14), none, .load 2 none (.t 13)⟩,
          ⟨(some 5), none, .mv (.t 14)⟩])
        (.seq (.ins [⟨(some 15), none, .mv (.t 3)⟩,
          ⟨(some 16), none, .mv (.t 5)⟩,
          ⟨(some 17), none, .len (.t 16)⟩,
          ⟨(some 18), none, .bin .add (.t 15) (.t 17)⟩,
          ⟨(some 3), none, .mv (.t 18)⟩])
        (.seq (.ins [⟨(some 19), none, .mv (.t 3)⟩,
          ⟨(some 20), none, .bin .lss (.t 19) (.c (.int .i64 0))⟩])
        (.cond (.t 20)
          (.ins [⟨(some 21), none, .bad⟩,
            ⟨none, none, .bad⟩])
          .skip)))))
      (.ins [⟨(some 22), none, .bin .add (.t 11) (.c (.int .i64 1))⟩,
        ⟨(some 11), none, .mv (.t 22)⟩])))))))
  (.seq (.ins [⟨(some 23), none, .mv (.t 3)⟩,
    ⟨(some 24), none, .call .ro true 150 [(.c (.sl 3 [] (some []))), (.t 23)]⟩,
    ⟨(some 6), none, .mv (.t 24)⟩])
  (.seq (.seq (.ins [⟨(some 25), none, .mv (.t 0)⟩,
    ⟨(some 26), none, .len (.t 25)⟩,
    ⟨(some 27), none, .mv (.c (.int .i64 0))⟩])
  (.block 2 (.loop (.seq (.ins [⟨(some 28), none, .bin .lss (.t 27) (.t 26)⟩])
      (.seq (.cond (.t 28)
        .skip
        (.exit 2))
      (.seq (.block 3 (.seq (.ins [⟨(some 29), none, .iaddr 1 (.t 25) (.t 27)⟩,
          ⟨(some 30), none, .load 2 none (.t 29)⟩,
          ⟨(some 8), none, .mv (.t 30)⟩])
        (.ins [⟨(some 31), none, .mv (.t 6)⟩,
          ⟨(some 32), none, .mv (.t 8)⟩,
          ⟨(some 33), none, .app false 3 (.t 31) (.t 32)⟩,
          ⟨(some 6), none, .mv (.t 33)⟩])))
      (.ins [⟨(some 34), none, .bin .add (.t 27) (.c (.int .i64 1))⟩,
        ⟨(some 27), none, .mv (.t 34)⟩])))))))
  (.seq (.ins [⟨(some 35), none, .mv (.t 6)⟩,
    ⟨(some 2), none, .mv (.t 35)⟩])
  .ret))))))⟩
-- exec.Do$1 [iso]
def c76 : AFn := ⟨2, [.tmp 3], false,
  (.seq (.ins [⟨(some 2), none, .boxv 1 (.t 0)⟩,
    ⟨(some 3), none, .mv (.c (.nilf))⟩])
  (.seq (.ins [⟨(some 4), none, .mkfn 77 [] [(.t 1), (.t 2)]⟩,
    ⟨(some 3), none, .mv (.t 4)⟩])
  .ret))⟩
-- exec.Do$1$1 [iso]
def c77 : AFn := ⟨3, [.tmp 4], false,
  (.seq (.ins [⟨(some 3), none, .boxv 3 (.t 0)⟩,
    ⟨(some 4), none, .mv (.c (.bool false))⟩])
  (.seq (.ins [⟨(some 5), none, .faddr (.t 1) 0⟩,
    ⟨(some 6), none, .load 0 none (.t 5)⟩,
    ⟨(some 7), none, .faddr (.t 1) 2⟩,
    ⟨(some 8), none, .load 0 none (.t 7)⟩,
    ⟨(some 9), none, .load 6 (some 3) (.t 3)⟩,
    ⟨(some 10), none, .call .iso true 78 [(.t 6), (.t 8), (.t 9)]⟩,
    ⟨(some 11), none, .load 0 none (.t 2)⟩,
    ⟨(some 12), none, .bin .eql (.t 10) (.t 11)⟩,
    ⟨(some 4), none, .mv (.t 12)⟩])
  .ret))⟩
-- plan.Where [iso]
def c78 : AFn := ⟨3, [.tmp 6], false,
  (.seq (.ins [⟨(some 5), none, .boxv 3 (.t 2)⟩,
    ⟨(some 6), none, .mv (.c (.int .i64 0))⟩])
  (.seq (.block 0 (.seq (.ins [⟨(some 8), none, .load 8 (some 3) (.t 5)⟩,
      ⟨(some 9), none, .call .iso false 151 [(.t 8)]⟩,
      ⟨(some 10), none, .not (.t 9)⟩,
      ⟨(some 7), none, .mv (.t 10)⟩])
    (.cond (.t 7)
      (.seq (.ins [⟨(some 6), none, .mv (.c (.int .i64 0))⟩])
      .ret)
      (.seq (.ins [⟨(some 12), none, .mv (.t 1)⟩,
        ⟨(some 13), none, .call .iso false 153 [(.t 12)]⟩,
        ⟨(some 14), none, .bsl 3 [.int .i64 0, .int .i64 0, .int .i64 0] 1 [(0, (.t 13))]⟩,
        ⟨(some 15), none, .load 8 (some 3) (.t 5)⟩,
        ⟨(some 16), none, .call .iso true 152 [(.t 14), (.t 15)]⟩,
        ⟨(some 11), none, .mv (.t 16)⟩])
      (.cond (.t 11)
        (.seq (.ins [⟨(some 6), none, .mv (.c (.int .i64 2))⟩])
        .ret)
        (.seq (.ins [⟨(some 18), none, .mv (.t 0)⟩,
          ⟨(some 19), none, .load 8 (some 3) (.t 5)⟩,
          ⟨(some 20), none, .call .iso true 152 [(.t 18), (.t 19)]⟩,
          ⟨(some 17), none, .mv (.t 20)⟩])
        (.cond (.t 17)
          (.seq (.ins [⟨(some 6), none, .mv (.c (.int .i64 1))⟩])
          .ret)
          .skip)))))))
  (.seq (.ins [⟨(some 6), none, .mv (.c (.int .i64 0))⟩])
  .ret)))⟩
-- slices.ContainsFunc[[]api.Span,api.Span] [iso]
def c81 : AFn := ⟨2, [.tmp 4], false,
  (.seq (.ins [⟨(some 4), none, .mv (.c (.bool false))⟩])
  (.seq (.ins [⟨(some 5), none, .mv (.t 0)⟩,
    ⟨(some 6), none, .mv (.t 1)⟩,
    ⟨(some 7), none, .call .iso true 156 [(.t 5), (.t 6)]⟩,
    ⟨(some 8), none, .bin .geq (.t 7) (.c (.int .i64 0))⟩,
    ⟨(some 4), none, .mv (.t 8)⟩])
  .ret))⟩
-- exec.control [rw]
def c82 : AFn := ⟨4, [.cell 8 (some 14)], false,
  (.seq (.ins [⟨(some 7), none, .boxv 12 (.t 3)⟩,
    ⟨(some 8), none, .allocv [.int .i64 0, .int .i64 0, .sl 1 [] (some []), .sl 1 [] (some []), .int .i64 0, .int .i64 0, .int .u16 0, .int .u16 0, .int .u16 0, .int .i64 0, .int .i64 0, .bool false, .int .i64 0, .sl 2 [] (some [])]⟩])
  (.seq (.seq (.ins [⟨(some 13), none, .faddr (.t 7) 0⟩,
    ⟨(some 14), none, .load 10 none (.t 13)⟩,
    ⟨(some 15), none, .bin .eql (.t 14) (.c (.int .i64 3))⟩])
  (.cond (.t 15)
    (.seq (.ins [⟨(some 16), none, .faddr (.t 7) 0⟩,
      ⟨(some 17), none, .load 10 none (.t 16)⟩,
      ⟨(some 18), none, .mv (.t 0)⟩,
      ⟨(some 19), none, .mv (.t 2)⟩,
      ⟨(some 20), none, .call .ro false 24 [(.t 18), (.t 19)]⟩,
      ⟨(some 21), none, .faddr (.t 7) 1⟩,
      ⟨(some 22), none, .load 10 none (.t 21)⟩,
      ⟨(some 23), none, .mv (.t 1)⟩,
      ⟨(some 24), none, .bin .sub (.t 22) (.t 23)⟩,
      ⟨(some 25), none, .faddr (.t 7) 1⟩,
      ⟨(some 26), none, .load 10 none (.t 25)⟩,
      ⟨(some 27), none, .mv (.t 1)⟩,
      ⟨(some 28), none, .bin .sub (.t 26) (.t 27)⟩,
      ⟨(some 29), none, .faddr (.t 7) 2⟩,
      ⟨(some 30), none, .load 10 none (.t 29)⟩,
      ⟨(some 31), none, .bin .add (.t 28) (.t 30)⟩,
      ⟨(some 32), none, .call .ro true 158 [(.t 20), (.t 24), (.t 31)]⟩,
      ⟨(some 33), none, .call .ro true 157 [(.t 17), (.t 32)]⟩,
      ⟨none, none, .store 11 14 0 (.t 8) (.t 33)⟩])
    .ret)
    .skip))
  (.seq (.ins [⟨(some 35), none, .load 10 (some 12) (.t 7)⟩,
    ⟨(some 36), none, .mv (.t 1)⟩,
    ⟨(some 37), none, .call .iso true 159 [(.t 35), (.t 36)]⟩,
    ⟨(some 34), none, .mv (.t 37)⟩,
    ⟨(some 38), none, .ext (.t 34) 0⟩,
    ⟨(some 39), none, .ext (.t 34) 1⟩,
    ⟨(some 9), none, .mv (.t 38)⟩,
    ⟨(some 10), none, .mv (.t 39)⟩])
  (.seq (.seq (.ins [⟨(some 40), none, .mv (.t 10)⟩,
    ⟨(some 41), none, .not (.t 40)⟩])
  (.cond (.t 41)
    (.seq (.ins [⟨(some 42), none, .faddr (.t 7) 0⟩,
      ⟨(some 43), none, .load 10 none (.t 42)⟩,
      ⟨(some 44), none, .call .ro true 72 [(.t 43), (.c (.int .i64 2))]⟩,
      ⟨none, none, .store 11 14 0 (.t 8) (.t 44)⟩])
    .ret)
    .skip))
  (.seq (.ins [⟨(some 45), none, .mv (.t 9)⟩,
    ⟨(some 46), none, .call .ro false 160 [(.t 45)]⟩,
    ⟨(some 11), none, .mv (.t 46)⟩])
  (.seq (.seq (.ins [⟨(some 47), none, .mv (.t 11)⟩,
    ⟨(some 48), none, .eqn false true (.t 47) (.c (.nilf))⟩])
  (.cond (.t 48)
    (.seq (.ins [⟨(some 49), none, .faddr (.t 7) 0⟩,
      ⟨(some 50), none, .load 10 none (.t 49)⟩,
      ⟨(some 51), none, .call .ro true 72 [(.t 50), (.c (.int .i64 3))]⟩,
      ⟨none, none, .store 11 14 0 (.t 8) (.t 51)⟩])
    .ret)
    .skip))
  (.seq (.seq (.ins [⟨(some 52), none, .mv (.t 11)⟩,
    ⟨(some 53), none, .mv (.t 0)⟩,
    ⟨(some 54), none, .mv (.t 2)⟩,
    ⟨(some 55), none, .callv .rw false (.t 52) [(.t 53), (.t 54)]⟩,
    ⟨(some 12), none, .mv (.t 55)⟩])
  (.block 0 (.seq (.ins [⟨(some 57), none, .mv (.t 12)⟩,
      ⟨(some 58), none, .bin .eql (.t 57) (.c (.int .i64 0))⟩,
      ⟨(some 56), none, .mv (.t 58)⟩])
    (.cond (.t 56)
      (.seq (.ins [⟨(some 59), none, .load 10 (some 12) (.t 7)⟩,
        ⟨(some 60), none, .call .ro true 161 [(.t 59)]⟩,
        ⟨none, none, .store 11 14 0 (.t 8) (.t 60)⟩])
      .ret)
      (.seq (.ins [⟨(some 62), none, .mv (.t 12)⟩,
        ⟨(some 63), none, .bin .eql (.t 62) (.c (.int .i64 4))⟩,
        ⟨(some 64), none, .mv (.t 63)⟩,
        ⟨(some 65), (some (64, true)), .mv (.t 9)⟩,
        ⟨(some 66), (some (64, true)), .bin .eql (.t 65) (.c (.int .i64 1))⟩,
        ⟨(some 67), none, .pick (.t 64) (.t 66) (.c (.bool false))⟩,
        ⟨(some 61), none, .mv (.t 67)⟩])
      (.cond (.t 61)
        (.seq (.ins [⟨(some 68), none, .faddr (.t 7) 0⟩,
          ⟨(some 69), none, .load 10 none (.t 68)⟩,
          ⟨(some 70), none, .call .ro true 72 [(.t 69), (.c (.int .i64 6))]⟩,
          ⟨none, none, .store 11 14 0 (.t 8) (.t 70)⟩])
        .ret)
        .skip))))))
  (.seq (.ins [⟨(some 71), none, .faddr (.t 7) 0⟩,
    ⟨(some 72), none, .load 10 none (.t 71)⟩,
    ⟨(some 73), none, .call .ro true 72 [(.t 72), (.c (.int .i64 4))]⟩,
    ⟨none, none, .store 11 14 0 (.t 8) (.t 73)⟩])
  .ret))))))))⟩
-- busbarref5.sameBits [iso]
def c84 : AFn := ⟨2, [.tmp 4], false,
  (.seq (.ins [⟨(some 4), none, .mv (.c (.bool false))⟩])
  (.seq (.seq (.ins [⟨(some 6), none, .mv (.t 0)⟩,
    ⟨(some 7), none, .len (.t 6)⟩,
    ⟨(some 8), none, .mv (.t 1)⟩,
    ⟨(some 9), none, .len (.t 8)⟩,
    ⟨(some 10), none, .bin .neq (.t 7) (.t 9)⟩])
  (.cond (.t 10)
    (.seq (.ins [⟨(some 4), none, .mv (.c (.bool false))⟩])
    .ret)
    .skip))
  (.seq (.seq (.ins [⟨(some 5), none, .mv (.c (.int .i64 0))⟩])
  (.block 0 (.loop (.seq (.seq (.ins [⟨(some 11), none, .mv (.t 5)⟩,
        ⟨(some 12), none, .mv (.t 0)⟩,
        ⟨(some 13), none, .len (.t 12)⟩,
        ⟨(some 14), none, .bin .lss (.t 11) (.t 13)⟩])
      (.cond (.t 14)
        .skip
        (.exit 0)))
      (.seq (.block 1 (.seq (.ins [⟨(some 17), none, .mv (.t 0)⟩,
          ⟨(some 18), none, .mv (.t 5)⟩,
          ⟨(some 19), none, .iaddr 1 (.t 17) (.t 18)⟩,
          ⟨(some 20), none, .load 2 none (.t 19)⟩,
          ⟨(some 21), none, .mv (.t 1)⟩,
          ⟨(some 22), none, .mv (.t 5)⟩,
          ⟨(some 23), none, .iaddr 1 (.t 21) (.t 22)⟩,
          ⟨(some 24), none, .load 2 none (.t 23)⟩,
          ⟨(some 25), none, .eqv true false [.b] (.t 20) (.t 24)⟩])
        (.cond (.t 25)
          (.seq (.ins [⟨(some 4), none, .mv (.c (.bool false))⟩])
          .ret)
          .skip)))
      (.ins [⟨(some 15), none, .mv (.t 5)⟩,
        ⟨(some 16), none, .bin .add (.t 15) (.c (.int .i64 1))⟩,
        ⟨(some 5), none, .mv (.t 16)⟩]))))))
  (.seq (.ins [⟨(some 4), none, .mv (.c (.bool true))⟩])
  .ret))))⟩
-- busbarref5.SameWords [iso]
def c85 : AFn := ⟨2, [.tmp 4], false,
  (.seq (.ins [⟨(some 4), none, .mv (.c (.bool false))⟩])
  (.seq (.seq (.ins [⟨(some 6), none, .mv (.t 0)⟩,
    ⟨(some 7), none, .len (.t 6)⟩,
    ⟨(some 8), none, .mv (.t 1)⟩,
    ⟨(some 9), none, .len (.t 8)⟩,
    ⟨(some 10), none, .bin .neq (.t 7) (.t 9)⟩])
  (.cond (.t 10)
    (.seq (.ins [⟨(some 4), none, .mv (.c (.bool false))⟩])
    .ret)
    .skip))
  (.seq (.seq (.ins [⟨(some 5), none, .mv (.c (.int .i64 0))⟩])
  (.block 0 (.loop (.seq (.seq (.ins [⟨(some 11), none, .mv (.t 5)⟩,
        ⟨(some 12), none, .mv (.t 0)⟩,
        ⟨(some 13), none, .len (.t 12)⟩,
        ⟨(some 14), none, .bin .lss (.t 11) (.t 13)⟩])
      (.cond (.t 14)
        .skip
        (.exit 0)))
      (.seq (.block 1 (.seq (.ins [⟨(some 17), none, .mv (.t 0)⟩,
          ⟨(some 18), none, .mv (.t 5)⟩,
          ⟨(some 19), none, .iaddr 1 (.t 17) (.t 18)⟩,
          ⟨(some 20), none, .load 2 none (.t 19)⟩,
          ⟨(some 21), none, .mv (.t 1)⟩,
          ⟨(some 22), none, .mv (.t 5)⟩,
          ⟨(some 23), none, .iaddr 1 (.t 21) (.t 22)⟩,
          ⟨(some 24), none, .load 2 none (.t 23)⟩,
          ⟨(some 25), none, .bin .neq (.t 20) (.t 24)⟩])
        (.cond (.t 25)
          (.seq (.ins [⟨(some 4), none, .mv (.c (.bool false))⟩])
          .ret)
          .skip)))
      (.ins [⟨(some 15), none, .mv (.t 5)⟩,
        ⟨(some 16), none, .bin .add (.t 15) (.c (.int .i64 1))⟩,
        ⟨(some 5), none, .mv (.t 16)⟩]))))))
  (.seq (.ins [⟨(some 4), none, .mv (.c (.bool true))⟩])
  .ret))))⟩
-- busbarref5.Right [iso]
def c86 : AFn := ⟨1, [.tmp 2], false,
  (.seq (.ins [⟨(some 1), none, .boxv 12 (.t 0)⟩,
    ⟨(some 2), none, .mv (.c (.bool false))⟩])
  (.seq (.seq (.ins [⟨(some 5), none, .faddr (.t 1) 0⟩,
    ⟨(some 6), none, .load 4 none (.t 5)⟩,
    ⟨(some 7), none, .call .iso false 165 [(.t 6)]⟩,
    ⟨(some 8), none, .not (.t 7)⟩,
    ⟨(some 9), none, .mv (.t 8)⟩,
    ⟨(some 10), (some (9, false)), .load 4 (some 12) (.t 1)⟩,
    ⟨(some 11), (some (9, false)), .call .iso true 166 [(.t 10)]⟩,
    ⟨(some 12), (some (9, false)), .not (.t 11)⟩,
    ⟨(some 13), none, .pick (.t 9) (.c (.bool true)) (.t 12)⟩,
    ⟨(some 14), none, .mv (.t 13)⟩,
    ⟨(some 15), (some (14, false)), .faddr (.t 1) 1⟩,
    ⟨(some 16), (some (14, false)), .load 4 none (.t 15)⟩,
    ⟨(some 17), (some (14, false)), .call .iso false 167 [(.t 16)]⟩,
    ⟨(some 18), (some (14, false)), .not (.t 17)⟩,
    ⟨(some 19), none, .pick (.t 14) (.c (.bool true)) (.t 18)⟩,
    ⟨(some 20), none, .mv (.t 19)⟩,
    ⟨(some 21), (some (20, false)), .faddr (.t 1) 8⟩,
    ⟨(some 22), (some (20, false)), .load 4 none (.t 21)⟩,
    ⟨(some 23), (some (20, false)), .call .iso false 167 [(.t 22)]⟩,
    ⟨(some 24), (some (20, false)), .not (.t 23)⟩,
    ⟨(some 25), none, .pick (.t 20) (.c (.bool true)) (.t 24)⟩])
  (.cond (.t 25)
    (.seq (.ins [⟨(some 2), none, .mv (.c (.bool false))⟩])
    .ret)
    .skip))
  (.seq (.ins [⟨(some 27), none, .faddr (.t 1) 0⟩,
    ⟨(some 28), none, .load 4 none (.t 27)⟩,
    ⟨(some 29), none, .call .iso false 168 [(.t 28)]⟩,
    ⟨(some 26), none, .mv (.t 29)⟩,
    ⟨(some 30), none, .ext (.t 26) 0⟩,
    ⟨(some 31), none, .ext (.t 26) 1⟩,
    ⟨(some 3), none, .mv (.t 30)⟩,
    ⟨(some 4), none, .mv (.t 31)⟩])
  (.seq (.seq (.ins [⟨(some 32), none, .faddr (.t 1) 0⟩,
    ⟨(some 33), none, .load 4 none (.t 32)⟩])
  (.block 0 (.seq (.seq (.ins [⟨(some 35), none, .bin .eql (.t 33) (.c (.int .i64 1))⟩,
      ⟨(some 34), none, .mv (.t 35)⟩])
    (.cond (.t 34)
      .skip
      (.seq (.ins [⟨(some 36), none, .bin .eql (.t 33) (.c (.int .i64 2))⟩,
        ⟨(some 34), none, .mv (.t 36)⟩])
      (.cond (.t 34)
        .skip
        (.seq (.ins [⟨(some 37), none, .bin .eql (.t 33) (.c (.int .i64 3))⟩,
          ⟨(some 34), none, .mv (.t 37)⟩])
        (.cond (.t 34)
          .skip
          (.ins [⟨(some 38), none, .bin .eql (.t 33) (.c (.int .i64 4))⟩,
            ⟨(some 34), none, .mv (.t 38)⟩])))))))
    (.cond (.t 34)
      (.seq (.ins [⟨(some 39), none, .faddr (.t 1) 2⟩,
        ⟨(some 40), none, .load 4 none (.t 39)⟩,
        ⟨(some 41), none, .bin .geq (.t 40) (.c (.int .i64 1))⟩,
        ⟨(some 42), none, .mv (.t 41)⟩,
        ⟨(some 43), (some (42, true)), .faddr (.t 1) 2⟩,
        ⟨(some 44), (some (42, true)), .load 4 none (.t 43)⟩,
        ⟨(some 45), (some (42, true)), .mv (.t 3)⟩,
        ⟨(some 46), (some (42, true)), .bin .leq (.t 44) (.t 45)⟩,
        ⟨(some 47), none, .pick (.t 42) (.t 46) (.c (.bool false))⟩,
        ⟨(some 2), none, .mv (.t 47)⟩])
      .ret)
      (.seq (.ins [⟨(some 49), none, .bin .eql (.t 33) (.c (.int .i64 5))⟩,
        ⟨(some 48), none, .mv (.t 49)⟩])
      (.cond (.t 48)
        (.seq (.ins [⟨(some 50), none, .faddr (.t 1) 3⟩,
          ⟨(some 51), none, .load 4 none (.t 50)⟩,
          ⟨(some 52), none, .bin .leq (.t 51) (.c (.int .u16 1))⟩,
          ⟨(some 2), none, .mv (.t 52)⟩])
        .ret)
        (.seq (.ins [⟨(some 54), none, .bin .eql (.t 33) (.c (.int .i64 15))⟩,
          ⟨(some 53), none, .mv (.t 54)⟩])
        (.cond (.t 53)
          (.seq (.ins [⟨(some 55), none, .faddr (.t 1) 2⟩,
            ⟨(some 56), none, .load 4 none (.t 55)⟩,
            ⟨(some 57), none, .bin .geq (.t 56) (.c (.int .i64 1))⟩,
            ⟨(some 58), none, .mv (.t 57)⟩,
            ⟨(some 59), (some (58, true)), .faddr (.t 1) 2⟩,
            ⟨(some 60), (some (58, true)), .load 4 none (.t 59)⟩,
            ⟨(some 61), (some (58, true)), .mv (.t 4)⟩,
            ⟨(some 62), (some (58, true)), .bin .leq (.t 60) (.t 61)⟩,
            ⟨(some 63), none, .pick (.t 58) (.t 62) (.c (.bool false))⟩,
            ⟨(some 64), none, .mv (.t 63)⟩,
            ⟨(some 65), (some (64, true)), .faddr (.t 1) 6⟩,
            ⟨(some 66), (some (64, true)), .load 4 none (.t 65)⟩,
            ⟨(some 67), (some (64, true)), .len (.t 66)⟩,
            ⟨(some 68), (some (64, true)), .faddr (.t 1) 2⟩,
            ⟨(some 69), (some (64, true)), .load 4 none (.t 68)⟩,
            ⟨(some 70), (some (64, true)), .bin .eql (.t 67) (.t 69)⟩,
            ⟨(some 71), none, .pick (.t 64) (.t 70) (.c (.bool false))⟩,
            ⟨(some 2), none, .mv (.t 71)⟩])
          .ret)
          (.seq (.ins [⟨(some 73), none, .bin .eql (.t 33) (.c (.int .i64 16))⟩,
            ⟨(some 72), none, .mv (.t 73)⟩])
          (.cond (.t 72)
            (.seq (.ins [⟨(some 74), none, .faddr (.t 1) 2⟩,
              ⟨(some 75), none, .load 4 none (.t 74)⟩,
              ⟨(some 76), none, .bin .geq (.t 75) (.c (.int .i64 1))⟩,
              ⟨(some 77), none, .mv (.t 76)⟩,
              ⟨(some 78), (some (77, true)), .faddr (.t 1) 2⟩,
              ⟨(some 79), (some (77, true)), .load 4 none (.t 78)⟩,
              ⟨(some 80), (some (77, true)), .mv (.t 4)⟩,
              ⟨(some 81), (some (77, true)), .bin .leq (.t 79) (.t 80)⟩,
              ⟨(some 82), none, .pick (.t 77) (.t 81) (.c (.bool false))⟩,
              ⟨(some 83), none, .mv (.t 82)⟩,
              ⟨(some 84), (some (83, true)), .faddr (.t 1) 7⟩,
              ⟨(some 85), (some (83, true)), .load 4 none (.t 84)⟩,
              ⟨(some 86), (some (83, true)), .len (.t 85)⟩,
              ⟨(some 87), (some (83, true)), .faddr (.t 1) 2⟩,
              ⟨(some 88), (some (83, true)), .load 4 none (.t 87)⟩,
              ⟨(some 89), (some (83, true)), .bin .eql (.t 86) (.t 88)⟩,
              ⟨(some 90), none, .pick (.t 83) (.t 89) (.c (.bool false))⟩,
              ⟨(some 2), none, .mv (.t 90)⟩])
            .ret)
            (.seq (.ins [⟨(some 92), none, .bin .eql (.t 33) (.c (.int .i64 23))⟩,
              ⟨(some 91), none, .mv (.t 92)⟩])
            (.cond (.t 91)
              (.seq (.ins [⟨(some 93), none, .faddr (.t 1) 2⟩,
                ⟨(some 94), none, .load 4 none (.t 93)⟩,
                ⟨(some 95), none, .bin .geq (.t 94) (.c (.int .i64 1))⟩,
                ⟨(some 96), none, .mv (.t 95)⟩,
                ⟨(some 97), (some (96, true)), .faddr (.t 1) 2⟩,
                ⟨(some 98), (some (96, true)), .load 4 none (.t 97)⟩,
                ⟨(some 99), (some (96, true)), .mv (.t 4)⟩,
                ⟨(some 100), (some (96, true)), .bin .leq (.t 98) (.t 99)⟩,
                ⟨(some 101), none, .pick (.t 96) (.t 100) (.c (.bool false))⟩,
                ⟨(some 102), none, .mv (.t 101)⟩,
                ⟨(some 103), (some (102, true)), .faddr (.t 1) 7⟩,
                ⟨(some 104), (some (102, true)), .load 4 none (.t 103)⟩,
                ⟨(some 105), (some (102, true)), .len (.t 104)⟩,
                ⟨(some 106), (some (102, true)), .faddr (.t 1) 2⟩,
                ⟨(some 107), (some (102, true)), .load 4 none (.t 106)⟩,
                ⟨(some 108), (some (102, true)), .bin .eql (.t 105) (.t 107)⟩,
                ⟨(some 109), none, .pick (.t 102) (.t 108) (.c (.bool false))⟩,
                ⟨(some 110), none, .mv (.t 109)⟩,
                ⟨(some 111), (some (110, true)), .faddr (.t 1) 9⟩,
                ⟨(some 112), (some (110, true)), .load 4 none (.t 111)⟩,
                ⟨(some 113), (some (110, true)), .bin .geq (.t 112) (.c (.int .i64 1))⟩,
                ⟨(some 114), none, .pick (.t 110) (.t 113) (.c (.bool false))⟩,
                ⟨(some 115), none, .mv (.t 114)⟩,
                ⟨(some 116), (some (115, true)), .faddr (.t 1) 9⟩,
                ⟨(some 117), (some (115, true)), .load 4 none (.t 116)⟩,
                ⟨(some 118), (some (115, true)), .mv (.t 3)⟩,
                ⟨(some 119), (some (115, true)), .bin .leq (.t 117) (.t 118)⟩,
                ⟨(some 120), none, .pick (.t 115) (.t 119) (.c (.bool false))⟩,
                ⟨(some 2), none, .mv (.t 120)⟩])
              .ret)
              (.seq (.ins [⟨(some 122), none, .bin .eql (.t 33) (.c (.int .i64 43))⟩,
                ⟨(some 121), none, .mv (.t 122)⟩])
              (.cond (.t 121)
                (.seq (.ins [⟨(some 123), none, .faddr (.t 1) 10⟩,
                  ⟨(some 124), none, .load 4 none (.t 123)⟩,
                  ⟨(some 125), none, .bin .geq (.t 124) (.c (.int .i64 1))⟩,
                  ⟨(some 126), none, .mv (.t 125)⟩,
                  ⟨(some 127), (some (126, true)), .faddr (.t 1) 10⟩,
                  ⟨(some 128), (some (126, true)), .load 4 none (.t 127)⟩,
                  ⟨(some 129), (some (126, true)), .bin .leq (.t 128) (.c (.int .i64 4))⟩,
                  ⟨(some 130), none, .pick (.t 126) (.t 129) (.c (.bool false))⟩,
                  ⟨(some 131), none, .mv (.t 130)⟩,
                  ⟨(some 132), (some (131, true)), .faddr (.t 1) 11⟩,
                  ⟨(some 133), (some (131, true)), .load 4 none (.t 132)⟩,
                  ⟨(some 134), (some (131, true)), .call .iso false 94 [(.t 133)]⟩,
                  ⟨(some 135), none, .pick (.t 131) (.t 134) (.c (.bool false))⟩,
                  ⟨(some 2), none, .mv (.t 135)⟩])
                .ret)
                .skip))))))))))))))
  (.seq (.ins [⟨(some 2), none, .mv (.c (.bool true))⟩])
  .ret)))))⟩
-- busbarref12.Usual [iso]
def c87 : AFn := ⟨0, [.cell 0 (some 13)], false,
  (.seq (.ins [⟨(some 0), none, .allocv [.sl 3 [] (some []), .sl 3 [] (some []), .int .i64 0, .int .i64 0, .int .i64 0, .int .i64 0, .int .i64 0, .int .i64 0, .int .i64 0, .int .i64 0, .int .i64 0, .int .u64 0, .sl 2 [] (some [])]⟩])
  (.seq (.ins [⟨(some 3), none, .build [.sl 3 [] (some []), .sl 3 [] (some []), .int .i64 0, .int .i64 0, .int .i64 0, .int .i64 0, .int .i64 0, .int .i64 0, .int .i64 0, .int .i64 0, .int .i64 0, .int .u64 0, .sl 2 [] (some [])] [(2, 1, (.c (.int .i64 60000))), (3, 1, (.c (.int .i64 100))), (4, 1, (.c (.int .i64 32))), (5, 1, (.c (.int .i64 8))), (6, 1, (.c (.int .i64 10000))), (7, 1, (.c (.int .i64 100))), (8, 1, (.c (.int .i64 500))), (9, 1, (.c (.int .i64 1024))), (10, 1, (.c (.int .i64 1024)))]⟩,
    ⟨(some 1), none, .allocv [.sl 3 [] (some []), .sl 3 [] (some []), .int .i64 0, .int .i64 0, .int .i64 0, .int .i64 0, .int .i64 0, .int .i64 0, .int .i64 0, .int .i64 0, .int .i64 0, .int .u64 0, .sl 2 [] (some [])]⟩,
    ⟨none, none, .store 4 13 0 (.t 1) (.t 3)⟩])
  (.seq (.seq (.ins [⟨(some 2), none, .mv (.c (.int .i64 0))⟩])
  (.block 0 (.loop (.seq (.seq (.ins [⟨(some 4), none, .mv (.t 2)⟩,
        ⟨(some 5), none, .bin .lss (.t 4) (.c (.int .i64 4))⟩])
      (.cond (.t 5)
        .skip
        (.exit 0)))
      (.seq (.block 1 (.ins [⟨(some 8), none, .faddr (.t 1) 0⟩,
          ⟨(some 9), none, .load 4 none (.t 8)⟩,
          ⟨(some 10), none, .mv (.t 2)⟩,
          ⟨(some 11), none, .build [.int .i64 0, .int .i64 0, .int .i64 0] [(0, 1, (.t 10)), (1, 1, (.c (.int .i64 0))), (2, 1, (.c (.int .i64 1000)))]⟩,
          ⟨(some 12), none, .bsl 3 [.int .i64 0, .int .i64 0, .int .i64 0] 1 [(0, (.t 11))]⟩,
          ⟨(some 13), none, .app false 3 (.t 9) (.t 12)⟩,
          ⟨(some 14), none, .faddr (.t 1) 0⟩,
          ⟨none, none, .store 4 1 0 (.t 14) (.t 13)⟩]))
      (.ins [⟨(some 6), none, .mv (.t 2)⟩,
        ⟨(some 7), none, .bin .add (.t 6) (.c (.int .i64 1))⟩,
        ⟨(some 2), none, .mv (.t 7)⟩]))))))
  (.seq (.ins [⟨(some 15), none, .build [.int .i64 0, .str .empty] [(0, 1, (.c (.int .i64 0))), (1, 1, (.c (.str ⟨#[98, 117, 115, 98, 97, 114]⟩)))]⟩,
    ⟨(some 16), none, .build [.int .i64 0, .str .empty] [(0, 1, (.c (.int .i64 1))), (1, 1, (.c (.str ⟨#[98, 49]⟩)))]⟩,
    ⟨(some 17), none, .build [.int .i64 0, .str .empty] [(0, 1, (.c (.int .i64 2))), (1, 1, (.c (.str ⟨#[49, 46, 48]⟩)))]⟩,
    ⟨(some 18), none, .bsl 2 [.int .i64 0, .str .empty] 3 [(0, (.t 15)), (1, (.t 16)), (2, (.t 17))]⟩,
    ⟨(some 19), none, .faddr (.t 1) 12⟩,
    ⟨none, none, .store 4 1 0 (.t 19) (.t 18)⟩])
  (.seq (.ins [⟨(some 20), none, .load 4 (some 13) (.t 1)⟩,
    ⟨none, none, .store 3 13 0 (.t 0) (.t 20)⟩])
  .ret)))))⟩
-- busbarlaw0.At [iso]
def c88 : AFn := ⟨2, [.tmp 4], false,
  (.seq (.ins [⟨(some 4), none, .mv (.c (.int .i64 0))⟩])
  (.seq (.seq (.ins [⟨(some 5), none, .mv (.t 1)⟩,
    ⟨(some 6), none, .bin .lss (.t 5) (.c (.int .i64 0))⟩,
    ⟨(some 7), none, .mv (.t 6)⟩,
    ⟨(some 8), (some (7, false)), .mv (.t 1)⟩,
    ⟨(some 9), (some (7, false)), .mv (.t 0)⟩,
    ⟨(some 10), (some (7, false)), .len (.t 9)⟩,
    ⟨(some 11), (some (7, false)), .bin .geq (.t 8) (.t 10)⟩,
    ⟨(some 12), none, .pick (.t 7) (.c (.bool true)) (.t 11)⟩])
  (.cond (.t 12)
    (.seq (.ins [⟨(some 4), none, .mv (.c (.int .i64 0))⟩])
    .ret)
    .skip))
  (.seq (.ins [⟨(some 13), none, .mv (.t 0)⟩,
    ⟨(some 14), none, .mv (.t 1)⟩,
    ⟨(some 15), none, .iaddr 1 (.t 13) (.t 14)⟩,
    ⟨(some 16), none, .load 2 none (.t 15)⟩,
    ⟨(some 4), none, .mv (.t 16)⟩])
  .ret)))⟩
-- (*txn.Engine).Abort [rw]
def c92 : AFn := ⟨2, [.tmp 4], false,
  (.seq (.ins [⟨(some 4), none, .mv (.c (.bool false))⟩])
  (.seq (.ins [⟨(some 8), none, .mv (.t 0)⟩,
    ⟨(some 9), none, .nilc (.t 8)⟩,
    ⟨(some 10), none, .faddr (.t 9) 4⟩,
    ⟨(some 11), none, .load 2 none (.t 10)⟩,
    ⟨(some 12), none, .mv (.t 1)⟩,
    ⟨(some 13), none, .lookup false [.i] (.agg [.int .u64 0, .sl 3 [] (some []), .sl 3 [] (some [])]) (.t 11) (.t 12) true⟩,
    ⟨(some 7), none, .mv (.t 13)⟩,
    ⟨(some 14), none, .ext (.t 7) 0⟩,
    ⟨(some 15), none, .ext (.t 7) 1⟩,
    ⟨(some 5), none, .allocv [.int .u64 0, .sl 3 [] (some []), .sl 3 [] (some [])]⟩,
    ⟨none, none, .store 8 3 0 (.t 5) (.t 14)⟩,
    ⟨(some 6), none, .mv (.t 15)⟩])
  (.seq (.ins [⟨(some 16), none, .mv (.t 0)⟩,
    ⟨(some 17), none, .nilc (.t 16)⟩,
    ⟨(some 18), none, .faddr (.t 17) 4⟩,
    ⟨(some 19), none, .load 2 none (.t 18)⟩,
    ⟨(some 20), none, .mv (.t 1)⟩,
    ⟨none, none, .del false [.i] (.t 19) (.t 20)⟩])
  (.seq (.ins [⟨(some 21), none, .mv (.t 6)⟩,
    ⟨(some 4), none, .mv (.t 21)⟩])
  .ret))))⟩
-- (*sess.Sess).turn [rw]
def c93 : AFn := ⟨5, [], false,
  (.seq (.ins [⟨(some 10), none, .mv (.t 0)⟩,
    ⟨(some 11), none, .nilc (.t 10)⟩,
    ⟨(some 12), none, .faddr (.t 11) 3⟩,
    ⟨(some 13), none, .load 2 none (.t 12)⟩,
    ⟨(some 14), none, .mv (.t 1)⟩,
    ⟨(some 15), none, .mv (.t 2)⟩,
    ⟨(some 16), none, .mv (.t 3)⟩,
    ⟨(some 17), none, .mv (.t 4)⟩,
    ⟨(some 18), none, .build [.int .i64 0, .int .i64 0, .int .i64 0, .int .u64 0] [(0, 1, (.t 15)), (1, 1, (.t 16)), (3, 1, (.t 17))]⟩,
    ⟨(some 19), none, .build [.int .i64 0, .int .i64 0, .int .i64 0, .int .u64 0] [(0, 4, (.t 18))]⟩,
    ⟨none, none, .mupd false [.i] false (.t 13) (.t 14) (.t 19)⟩])
  (.seq (.ins [⟨(some 20), none, .mv (.t 2)⟩,
    ⟨(some 21), none, .bin .neq (.t 20) (.c (.int .i64 1))⟩])
  (.cond (.t 21)
    (.ins [⟨(some 22), none, .mv (.t 0)⟩,
      ⟨(some 23), none, .nilc (.t 22)⟩,
      ⟨(some 24), none, .faddr (.t 23) 2⟩,
      ⟨(some 25), none, .load 2 none (.t 24)⟩,
      ⟨(some 26), none, .mv (.t 1)⟩,
      ⟨(some 27), none, .call .rw false 170 [(.t 25), (.t 26)]⟩])
    .skip)))⟩
-- busbarref21.Books [rw]
def c140 : AFn := ⟨1, [.tmp 2], false,
  (.seq (.ins [⟨(some 2), none, .mv (.c (.nilp))⟩])
  (.seq (.ins [⟨(some 3), none, .mv (.t 0)⟩,
    ⟨(some 4), none, .max [(.t 3), (.c (.int .i64 1))]⟩,
    ⟨(some 5), none, .min [(.t 4), (.c (.int .i64 65535))]⟩,
    ⟨(some 6), none, .build [.int .i64 0, .sl 2 [] (some [])] [(0, 1, (.t 5))]⟩,
    ⟨(some 7), none, .boxh 2 false (.t 6)⟩,
    ⟨(some 2), none, .mv (.t 7)⟩])
  .ret))⟩
-- lease.New [rw]
def c141 : AFn := ⟨1, [.tmp 2], false,
  (.seq (.ins [⟨(some 2), none, .mv (.c (.nilp))⟩])
  (.seq (.ins [⟨(some 3), none, .mv (.t 0)⟩,
    ⟨(some 4), none, .max [(.t 3), (.c (.int .i64 1))]⟩,
    ⟨(some 5), none, .min [(.t 4), (.c (.int .i64 65535))]⟩,
    ⟨(some 6), none, .mkmap none⟩,
    ⟨(some 7), none, .build [.int .i64 0, .nilm] [(0, 1, (.t 5)), (1, 1, (.t 6))]⟩,
    ⟨(some 8), none, .boxh 2 false (.t 7)⟩,
    ⟨(some 2), none, .mv (.t 8)⟩])
  .ret))⟩
-- kind.Known [iso]
def c142 : AFn := ⟨1, [.tmp 2], false,
  (.seq (.ins [⟨(some 2), none, .mv (.c (.bool false))⟩])
  (.seq (.ins [⟨(some 6), none, .mv (.t 0)⟩,
    ⟨(some 7), none, .call .iso false 149 [(.t 6)]⟩,
    ⟨(some 5), none, .mv (.t 7)⟩,
    ⟨(some 8), none, .ext (.t 5) 0⟩,
    ⟨(some 9), none, .ext (.t 5) 1⟩,
    ⟨(some 3), none, .mv (.t 8)⟩,
    ⟨(some 4), none, .mv (.t 9)⟩])
  (.seq (.ins [⟨(some 10), none, .mv (.t 4)⟩,
    ⟨(some 11), none, .mv (.t 10)⟩,
    ⟨(some 12), (some (11, false)), .mv (.t 0)⟩,
    ⟨(some 13), (some (11, false)), .bin .eql (.t 12) (.c (.int .i64 43))⟩,
    ⟨(some 14), none, .pick (.t 11) (.c (.bool true)) (.t 13)⟩,
    ⟨(some 2), none, .mv (.t 14)⟩])
  .ret)))⟩
end Go.Proofs.Bb.Oo
