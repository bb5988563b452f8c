/- Compact code of functions of the program, printed by a program of this claim. -/
import Derived.Test.YtimlkngjkiknfaaGreatBbCore
set_option maxRecDepth 100000
namespace Go.Proofs.Bb.Oo
open Go
-- ask.numbers [iso]
def c143 : AFn := ⟨1, [.cell 2 (some 11)], false,
  (.seq (.ins [⟨(some 1), none, .boxv 12 (.t 0)⟩,
    ⟨(some 2), none, .allocv [.int .i64 0, .int .i64 0, .int .i64 0, .int .i64 0, .int .i64 0, .int .i64 0, .int .i64 0, .int .i64 0, .int .i64 0, .int .i64 0, .int .i64 0]⟩])
  (.seq (.ins [⟨(some 3), none, .faddr (.t 1) 1⟩,
    ⟨(some 4), none, .load 4 none (.t 3)⟩,
    ⟨(some 5), none, .faddr (.t 1) 2⟩,
    ⟨(some 6), none, .load 4 none (.t 5)⟩,
    ⟨(some 7), none, .faddr (.t 1) 3⟩,
    ⟨(some 8), none, .load 4 none (.t 7)⟩,
    ⟨(some 9), none, .convi .i64 (.t 8)⟩,
    ⟨(some 10), none, .faddr (.t 1) 4⟩,
    ⟨(some 11), none, .load 4 none (.t 10)⟩,
    ⟨(some 12), none, .convi .i64 (.t 11)⟩,
    ⟨(some 13), none, .faddr (.t 1) 5⟩,
    ⟨(some 14), none, .load 4 none (.t 13)⟩,
    ⟨(some 15), none, .convi .i64 (.t 14)⟩,
    ⟨(some 16), none, .faddr (.t 1) 8⟩,
    ⟨(some 17), none, .load 4 none (.t 16)⟩,
    ⟨(some 18), none, .faddr (.t 1) 9⟩,
    ⟨(some 19), none, .load 4 none (.t 18)⟩,
    ⟨(some 20), none, .faddr (.t 1) 10⟩,
    ⟨(some 21), none, .load 4 none (.t 20)⟩,
    ⟨(some 22), none, .faddr (.t 1) 11⟩,
    ⟨(some 23), none, .load 4 none (.t 22)⟩,
    ⟨(some 24), none, .faddr (.t 1) 6⟩,
    ⟨(some 25), none, .load 4 none (.t 24)⟩,
    ⟨(some 26), none, .len (.t 25)⟩,
    ⟨(some 27), none, .faddr (.t 1) 7⟩,
    ⟨(some 28), none, .load 4 none (.t 27)⟩,
    ⟨(some 29), none, .len (.t 28)⟩,
    ⟨(some 30), none, .build [.int .i64 0, .int .i64 0, .int .i64 0, .int .i64 0, .int .i64 0, .int .i64 0, .int .i64 0, .int .i64 0, .int .i64 0, .int .i64 0, .int .i64 0] [(0, 1, (.t 4)), (1, 1, (.t 6)), (2, 1, (.t 9)), (3, 1, (.t 12)), (4, 1, (.t 15)), (5, 1, (.t 17)), (6, 1, (.t 19)), (7, 1, (.t 21)), (8, 1, (.t 23)), (9, 1, (.t 26)), (10, 1, (.t 29))]⟩,
    ⟨none, none, .store 5 11 0 (.t 2) (.t 30)⟩])
  .ret))⟩
-- ask.only [iso]
def c144 : AFn := ⟨1, [.cell 2 (some 12)], false,
  (.seq (.ins [⟨(some 1), none, .boxv 12 (.t 0)⟩,
    ⟨(some 2), none, .allocv [.int .i64 0, .int .i64 0, .int .i64 0, .int .u16 0, .int .u16 0, .int .u16 0, .sl 1 [] (some []), .sl 1 [] (some []), .int .i64 0, .int .i64 0, .int .i64 0, .int .i64 0]⟩])
  (.seq (.ins [⟨(some 4), none, .faddr (.t 1) 0⟩,
    ⟨(some 5), none, .load 4 none (.t 4)⟩,
    ⟨(some 6), none, .build [.int .i64 0, .int .i64 0, .int .i64 0, .int .u16 0, .int .u16 0, .int .u16 0, .sl 1 [] (some []), .sl 1 [] (some []), .int .i64 0, .int .i64 0, .int .i64 0, .int .i64 0] [(0, 1, (.t 5))]⟩,
    ⟨(some 3), none, .allocv [.int .i64 0, .int .i64 0, .int .i64 0, .int .u16 0, .int .u16 0, .int .u16 0, .sl 1 [] (some []), .sl 1 [] (some []), .int .i64 0, .int .i64 0, .int .i64 0, .int .i64 0]⟩,
    ⟨none, none, .store 6 12 0 (.t 3) (.t 6)⟩])
  (.seq (.seq (.ins [⟨(some 7), none, .faddr (.t 1) 0⟩,
    ⟨(some 8), none, .load 4 none (.t 7)⟩])
  (.block 0 (.seq (.block 7 (.seq (.block 6 (.seq (.block 5 (.seq (.block 4 (.seq (.block 3 (.seq (.block 2 (.seq (.block 1 (.seq (.seq (.seq (.ins [⟨(some 10), none, .bin .eql (.t 8) (.c (.int .i64 23))⟩,
                    ⟨(some 9), none, .mv (.t 10)⟩])
                  (.cond (.t 9)
                    (.exit 1)
                    .skip))
                  (.seq (.seq (.ins [⟨(some 12), none, .bin .eql (.t 8) (.c (.int .i64 16))⟩,
                    ⟨(some 11), none, .mv (.t 12)⟩])
                  (.cond (.t 11)
                    (.exit 2)
                    .skip))
                  (.seq (.seq (.seq (.ins [⟨(some 14), none, .bin .eql (.t 8) (.c (.int .i64 1))⟩,
                    ⟨(some 13), none, .mv (.t 14)⟩])
                  (.cond (.t 13)
                    .skip
                    (.seq (.ins [⟨(some 15), none, .bin .eql (.t 8) (.c (.int .i64 2))⟩,
                      ⟨(some 13), none, .mv (.t 15)⟩])
                    (.cond (.t 13)
                      .skip
                      (.seq (.ins [⟨(some 16), none, .bin .eql (.t 8) (.c (.int .i64 3))⟩,
                        ⟨(some 13), none, .mv (.t 16)⟩])
                      (.cond (.t 13)
                        .skip
                        (.ins [⟨(some 17), none, .bin .eql (.t 8) (.c (.int .i64 4))⟩,
                          ⟨(some 13), none, .mv (.t 17)⟩])))))))
                  (.cond (.t 13)
                    (.exit 3)
                    .skip))
                  (.seq (.seq (.ins [⟨(some 19), none, .bin .eql (.t 8) (.c (.int .i64 15))⟩,
                    ⟨(some 18), none, .mv (.t 19)⟩])
                  (.cond (.t 18)
                    (.exit 4)
                    .skip))
                  (.seq (.seq (.seq (.ins [⟨(some 21), none, .bin .eql (.t 8) (.c (.int .i64 5))⟩,
                    ⟨(some 20), none, .mv (.t 21)⟩])
                  (.cond (.t 20)
                    .skip
                    (.ins [⟨(some 22), none, .bin .eql (.t 8) (.c (.int .i64 6))⟩,
                      ⟨(some 20), none, .mv (.t 22)⟩])))
                  (.cond (.t 20)
                    (.exit 5)
                    .skip))
                  (.seq (.seq (.ins [⟨(some 24), none, .bin .eql (.t 8) (.c (.int .i64 22))⟩,
                    ⟨(some 23), none, .mv (.t 24)⟩])
                  (.cond (.t 23)
                    (.exit 6)
                    .skip))
                  (.seq (.ins [⟨(some 26), none, .bin .eql (.t 8) (.c (.int .i64 43))⟩,
                    ⟨(some 25), none, .mv (.t 26)⟩])
                  (.cond (.t 25)
                    (.exit 7)
                    .skip))))))))
                  (.exit 0)))
                (.ins [⟨(some 27), none, .faddr (.t 1) 8⟩,
                  ⟨(some 28), none, .load 4 none (.t 27)⟩,
                  ⟨(some 29), none, .faddr (.t 1) 9⟩,
                  ⟨(some 30), none, .load 4 none (.t 29)⟩,
                  ⟨(some 31), none, .faddr (.t 3) 8⟩,
                  ⟨none, none, .store 6 1 0 (.t 31) (.t 28)⟩,
                  ⟨(some 32), none, .faddr (.t 3) 9⟩,
                  ⟨none, none, .store 6 1 0 (.t 32) (.t 30)⟩])))
              (.ins [⟨(some 33), none, .faddr (.t 1) 7⟩,
                ⟨(some 34), none, .load 4 none (.t 33)⟩,
                ⟨(some 35), none, .faddr (.t 3) 7⟩,
                ⟨none, none, .store 6 1 0 (.t 35) (.t 34)⟩])))
            (.seq (.ins [⟨(some 36), none, .faddr (.t 1) 1⟩,
              ⟨(some 37), none, .load 4 none (.t 36)⟩,
              ⟨(some 38), none, .faddr (.t 1) 2⟩,
              ⟨(some 39), none, .load 4 none (.t 38)⟩,
              ⟨(some 40), none, .faddr (.t 3) 1⟩,
              ⟨none, none, .store 6 1 0 (.t 40) (.t 37)⟩,
              ⟨(some 41), none, .faddr (.t 3) 2⟩,
              ⟨none, none, .store 6 1 0 (.t 41) (.t 39)⟩])
            (.exit 0))))
          (.seq (.ins [⟨(some 42), none, .faddr (.t 1) 1⟩,
            ⟨(some 43), none, .load 4 none (.t 42)⟩,
            ⟨(some 44), none, .faddr (.t 1) 2⟩,
            ⟨(some 45), none, .load 4 none (.t 44)⟩,
            ⟨(some 46), none, .faddr (.t 1) 6⟩,
            ⟨(some 47), none, .load 4 none (.t 46)⟩,
            ⟨(some 48), none, .faddr (.t 3) 1⟩,
            ⟨none, none, .store 6 1 0 (.t 48) (.t 43)⟩,
            ⟨(some 49), none, .faddr (.t 3) 2⟩,
            ⟨none, none, .store 6 1 0 (.t 49) (.t 45)⟩,
            ⟨(some 50), none, .faddr (.t 3) 6⟩,
            ⟨none, none, .store 6 1 0 (.t 50) (.t 47)⟩])
          (.exit 0))))
        (.seq (.ins [⟨(some 51), none, .faddr (.t 1) 1⟩,
          ⟨(some 52), none, .load 4 none (.t 51)⟩,
          ⟨(some 53), none, .faddr (.t 1) 3⟩,
          ⟨(some 54), none, .load 4 none (.t 53)⟩,
          ⟨(some 55), none, .faddr (.t 3) 1⟩,
          ⟨none, none, .store 6 1 0 (.t 55) (.t 52)⟩,
          ⟨(some 56), none, .faddr (.t 3) 3⟩,
          ⟨none, none, .store 6 1 0 (.t 56) (.t 54)⟩])
        (.exit 0))))
      (.seq (.ins [⟨(some 57), none, .faddr (.t 1) 1⟩,
        ⟨(some 58), none, .load 4 none (.t 57)⟩,
        ⟨(some 59), none, .faddr (.t 1) 4⟩,
        ⟨(some 60), none, .load 4 none (.t 59)⟩,
        ⟨(some 61), none, .faddr (.t 1) 5⟩,
        ⟨(some 62), none, .load 4 none (.t 61)⟩,
        ⟨(some 63), none, .faddr (.t 3) 1⟩,
        ⟨none, none, .store 6 1 0 (.t 63) (.t 58)⟩,
        ⟨(some 64), none, .faddr (.t 3) 4⟩,
        ⟨none, none, .store 6 1 0 (.t 64) (.t 60)⟩,
        ⟨(some 65), none, .faddr (.t 3) 5⟩,
        ⟨none, none, .store 6 1 0 (.t 65) (.t 62)⟩])
      (.exit 0))))
    (.seq (.ins [⟨(some 66), none, .faddr (.t 1) 10⟩,
      ⟨(some 67), none, .load 4 none (.t 66)⟩,
      ⟨(some 68), none, .faddr (.t 1) 11⟩,
      ⟨(some 69), none, .load 4 none (.t 68)⟩,
      ⟨(some 70), none, .faddr (.t 3) 10⟩,
      ⟨none, none, .store 6 1 0 (.t 70) (.t 67)⟩,
      ⟨(some 71), none, .faddr (.t 3) 11⟩,
      ⟨none, none, .store 6 1 0 (.t 71) (.t 69)⟩])
    (.exit 0)))))
  (.seq (.ins [⟨(some 72), none, .load 6 (some 12) (.t 3)⟩,
    ⟨none, none, .store 5 12 0 (.t 2) (.t 72)⟩])
  .ret))))⟩
-- ask.address [iso]
def c145 : AFn := ⟨1, [.tmp 2], false,
  (.seq (.ins [⟨(some 2), none, .mv (.c (.bool false))⟩])
  (.seq (.ins [⟨(some 3), none, .mv (.t 0)⟩,
    ⟨(some 4), none, .bin .geq (.t 3) (.c (.int .i64 0))⟩,
    ⟨(some 5), none, .mv (.t 4)⟩,
    ⟨(some 6), (some (5, true)), .mv (.t 0)⟩,
    ⟨(some 7), (some (5, true)), .bin .lss (.t 6) (.c (.int .i64 65536))⟩,
    ⟨(some 8), none, .pick (.t 5) (.t 7) (.c (.bool false))⟩,
    ⟨(some 2), none, .mv (.t 8)⟩])
  .ret))⟩
-- kind.Most [iso]
def c146 : AFn := ⟨1, [.tmp 2, .tmp 3], false,
  (.seq (.ins [⟨(some 2), none, .mv (.c (.int .i64 0))⟩,
    ⟨(some 3), none, .mv (.c (.int .i64 0))⟩])
  (.seq (.seq (.ins [⟨(some 4), none, .mv (.t 0)⟩])
  (.block 0 (.seq (.seq (.ins [⟨(some 6), none, .bin .eql (.t 4) (.c (.int .i64 1))⟩,
      ⟨(some 5), none, .mv (.t 6)⟩])
    (.cond (.t 5)
      .skip
      (.ins [⟨(some 7), none, .bin .eql (.t 4) (.c (.int .i64 2))⟩,
        ⟨(some 5), none, .mv (.t 7)⟩])))
    (.cond (.t 5)
      (.seq (.ins [⟨(some 2), none, .mv (.c (.int .i64 2000))⟩,
        ⟨(some 3), none, .mv (.c (.int .i64 0))⟩])
      .ret)
      (.seq (.seq (.ins [⟨(some 9), none, .bin .eql (.t 4) (.c (.int .i64 3))⟩,
        ⟨(some 8), none, .mv (.t 9)⟩])
      (.cond (.t 8)
        .skip
        (.ins [⟨(some 10), none, .bin .eql (.t 4) (.c (.int .i64 4))⟩,
          ⟨(some 8), none, .mv (.t 10)⟩])))
      (.cond (.t 8)
        (.seq (.ins [⟨(some 2), none, .mv (.c (.int .i64 125))⟩,
          ⟨(some 3), none, .mv (.c (.int .i64 0))⟩])
        .ret)
        (.seq (.seq (.ins [⟨(some 12), none, .bin .eql (.t 4) (.c (.int .i64 5))⟩,
          ⟨(some 11), none, .mv (.t 12)⟩])
        (.cond (.t 11)
          .skip
          (.seq (.ins [⟨(some 13), none, .bin .eql (.t 4) (.c (.int .i64 6))⟩,
            ⟨(some 11), none, .mv (.t 13)⟩])
          (.cond (.t 11)
            .skip
            (.ins [⟨(some 14), none, .bin .eql (.t 4) (.c (.int .i64 22))⟩,
              ⟨(some 11), none, .mv (.t 14)⟩])))))
        (.cond (.t 11)
          (.seq (.ins [⟨(some 2), none, .mv (.c (.int .i64 0))⟩,
            ⟨(some 3), none, .mv (.c (.int .i64 1))⟩])
          .ret)
          (.seq (.ins [⟨(some 16), none, .bin .eql (.t 4) (.c (.int .i64 15))⟩,
            ⟨(some 15), none, .mv (.t 16)⟩])
          (.cond (.t 15)
            (.seq (.ins [⟨(some 2), none, .mv (.c (.int .i64 0))⟩,
              ⟨(some 3), none, .mv (.c (.int .i64 1968))⟩])
            .ret)
            (.seq (.ins [⟨(some 18), none, .bin .eql (.t 4) (.c (.int .i64 16))⟩,
              ⟨(some 17), none, .mv (.t 18)⟩])
            (.cond (.t 17)
              (.seq (.ins [⟨(some 2), none, .mv (.c (.int .i64 0))⟩,
                ⟨(some 3), none, .mv (.c (.int .i64 123))⟩])
              .ret)
              (.seq (.ins [⟨(some 20), none, .bin .eql (.t 4) (.c (.int .i64 23))⟩,
                ⟨(some 19), none, .mv (.t 20)⟩])
              (.cond (.t 19)
                (.seq (.ins [⟨(some 2), none, .mv (.c (.int .i64 125))⟩,
                  ⟨(some 3), none, .mv (.c (.int .i64 121))⟩])
                .ret)
                .skip))))))))))))))
  (.seq (.ins [⟨(some 2), none, .mv (.c (.int .i64 0))⟩,
    ⟨(some 3), none, .mv (.c (.int .i64 0))⟩])
  .ret)))⟩
-- ask.counts [iso]
def c147 : AFn := ⟨2, [.tmp 4], false,
  (.seq (.ins [⟨(some 4), none, .mv (.c (.bool false))⟩])
  (.seq (.ins [⟨(some 5), none, .mv (.t 0)⟩,
    ⟨(some 6), none, .bin .geq (.t 5) (.c (.int .i64 1))⟩,
    ⟨(some 7), none, .mv (.t 6)⟩,
    ⟨(some 8), (some (7, true)), .mv (.t 0)⟩,
    ⟨(some 9), (some (7, true)), .mv (.t 1)⟩,
    ⟨(some 10), (some (7, true)), .bin .leq (.t 8) (.t 9)⟩,
    ⟨(some 11), none, .pick (.t 7) (.t 10) (.c (.bool false))⟩,
    ⟨(some 4), none, .mv (.t 11)⟩])
  .ret))⟩
-- kind.Table [iso]
def c149 : AFn := ⟨1, [.tmp 2, .tmp 3], false,
  (.seq (.ins [⟨(some 2), none, .mv (.c (.int .i64 0))⟩,
    ⟨(some 3), none, .mv (.c (.bool false))⟩])
  (.seq (.seq (.ins [⟨(some 4), none, .mv (.t 0)⟩])
  (.block 0 (.seq (.seq (.ins [⟨(some 6), none, .bin .eql (.t 4) (.c (.int .i64 1))⟩,
      ⟨(some 5), none, .mv (.t 6)⟩])
    (.cond (.t 5)
      .skip
      (.seq (.ins [⟨(some 7), none, .bin .eql (.t 4) (.c (.int .i64 5))⟩,
        ⟨(some 5), none, .mv (.t 7)⟩])
      (.cond (.t 5)
        .skip
        (.ins [⟨(some 8), none, .bin .eql (.t 4) (.c (.int .i64 15))⟩,
          ⟨(some 5), none, .mv (.t 8)⟩])))))
    (.cond (.t 5)
      (.seq (.ins [⟨(some 2), none, .mv (.c (.int .i64 0))⟩,
        ⟨(some 3), none, .mv (.c (.bool true))⟩])
      .ret)
      (.seq (.ins [⟨(some 10), none, .bin .eql (.t 4) (.c (.int .i64 2))⟩,
        ⟨(some 9), none, .mv (.t 10)⟩])
      (.cond (.t 9)
        (.seq (.ins [⟨(some 2), none, .mv (.c (.int .i64 1))⟩,
          ⟨(some 3), none, .mv (.c (.bool true))⟩])
        .ret)
        (.seq (.seq (.ins [⟨(some 12), none, .bin .eql (.t 4) (.c (.int .i64 3))⟩,
          ⟨(some 11), none, .mv (.t 12)⟩])
        (.cond (.t 11)
          .skip
          (.seq (.ins [⟨(some 13), none, .bin .eql (.t 4) (.c (.int .i64 6))⟩,
            ⟨(some 11), none, .mv (.t 13)⟩])
          (.cond (.t 11)
            .skip
            (.seq (.ins [⟨(some 14), none, .bin .eql (.t 4) (.c (.int .i64 16))⟩,
              ⟨(some 11), none, .mv (.t 14)⟩])
            (.cond (.t 11)
              .skip
              (.seq (.ins [⟨(some 15), none, .bin .eql (.t 4) (.c (.int .i64 22))⟩,
                ⟨(some 11), none, .mv (.t 15)⟩])
              (.cond (.t 11)
                .skip
                (.ins [⟨(some 16), none, .bin .eql (.t 4) (.c (.int .i64 23))⟩,
                  ⟨(some 11), none, .mv (.t 16)⟩])))))))))
        (.cond (.t 11)
          (.seq (.ins [⟨(some 2), none, .mv (.c (.int .i64 2))⟩,
            ⟨(some 3), none, .mv (.c (.bool true))⟩])
          .ret)
          (.seq (.ins [⟨(some 18), none, .bin .eql (.t 4) (.c (.int .i64 4))⟩,
            ⟨(some 17), none, .mv (.t 18)⟩])
          (.cond (.t 17)
            (.seq (.ins [⟨(some 2), none, .mv (.c (.int .i64 3))⟩,
              ⟨(some 3), none, .mv (.c (.bool true))⟩])
            .ret)
            .skip))))))))))
  (.seq (.ins [⟨(some 2), none, .mv (.c (.int .i64 0))⟩,
    ⟨(some 3), none, .mv (.c (.bool false))⟩])
  .ret)))⟩
-- slices.Grow[[]api.Span,api.Span] [iso]
def c150 : AFn := ⟨2, [.tmp 4], true,
  (.seq (.ins [⟨(some 4), none, .mv (.c (.sl 3 [] (some [])))⟩])
  (.seq (.seq (.ins [⟨(some 5), none, .mv (.t 1)⟩,
    ⟨(some 6), none, .bin .lss (.t 5) (.c (.int .i64 0))⟩])
  (.cond (.t 6)
    (.ins [⟨(some 7), none, .bad⟩,
      ⟨none, none, .bad⟩])
    .skip))
  (.seq (.seq (.ins [⟨(some 8), none, .mv (.t 1)⟩,
    ⟨(some 9), none, .mv (.t 0)⟩,
    ⟨(some 10), none, .cap (.t 9)⟩,
    ⟨(some 11), none, .mv (.t 0)⟩,
    ⟨(some 12), none, .len (.t 11)⟩,
    ⟨(some 13), none, .bin .sub (.t 10) (.t 12)⟩,
    ⟨(some 14), none, .bin .sub (.t 8) (.t 13)⟩,
    ⟨(some 1), none, .mv (.t 14)⟩])
  (.seq (.ins [⟨(some 15), none, .mv (.t 1)⟩,
    ⟨(some 16), none, .bin .gtr (.t 15) (.c (.int .i64 0))⟩])
  (.cond (.t 16)
    (.ins [⟨(some 17), none, .mv (.t 0)⟩,
      ⟨(some 18), none, .mv (.t 0)⟩,
      ⟨(some 19), none, .cap (.t 18)⟩,
      ⟨(some 20), none, .slice 3 (.t 17) none (some (.t 19)) none⟩,
      ⟨(some 21), none, .mv (.t 1)⟩,
      ⟨(some 22), none, .appz 3 [.int .i64 0, .int .i64 0, .int .i64 0] (.t 20) (.t 21)⟩,
      ⟨(some 23), none, .mv (.t 0)⟩,
      ⟨(some 24), none, .len (.t 23)⟩,
      ⟨(some 25), none, .slice 3 (.t 22) none (some (.t 24)) none⟩,
      ⟨(some 0), none, .mv (.t 25)⟩])
    .skip)))
  (.seq (.ins [⟨(some 26), none, .mv (.t 0)⟩,
    ⟨(some 4), none, .mv (.t 26)⟩])
  .ret))))⟩
-- span.Right [iso]
def c151 : AFn := ⟨1, [.tmp 2], false,
  (.seq (.ins [⟨(some 1), none, .boxv 3 (.t 0)⟩,
    ⟨(some 2), none, .mv (.c (.bool false))⟩])
  (.seq (.ins [⟨(some 3), none, .faddr (.t 1) 0⟩,
    ⟨(some 4), none, .load 4 none (.t 3)⟩,
    ⟨(some 5), none, .bin .geq (.t 4) (.c (.int .i64 0))⟩,
    ⟨(some 6), none, .mv (.t 5)⟩,
    ⟨(some 7), (some (6, true)), .faddr (.t 1) 0⟩,
    ⟨(some 8), (some (6, true)), .load 4 none (.t 7)⟩,
    ⟨(some 9), (some (6, true)), .bin .lss (.t 8) (.c (.int .i64 4))⟩,
    ⟨(some 10), none, .pick (.t 6) (.t 9) (.c (.bool false))⟩,
    ⟨(some 11), none, .mv (.t 10)⟩,
    ⟨(some 12), (some (11, true)), .faddr (.t 1) 1⟩,
    ⟨(some 13), (some (11, true)), .load 4 none (.t 12)⟩,
    ⟨(some 14), (some (11, true)), .bin .geq (.t 13) (.c (.int .i64 0))⟩,
    ⟨(some 15), none, .pick (.t 11) (.t 14) (.c (.bool false))⟩,
    ⟨(some 16), none, .mv (.t 15)⟩,
    ⟨(some 17), (some (16, true)), .faddr (.t 1) 2⟩,
    ⟨(some 18), (some (16, true)), .load 4 none (.t 17)⟩,
    ⟨(some 19), (some (16, true)), .bin .leq (.t 18) (.c (.int .i64 65536))⟩,
    ⟨(some 20), none, .pick (.t 16) (.t 19) (.c (.bool false))⟩,
    ⟨(some 21), none, .mv (.t 20)⟩,
    ⟨(some 22), (some (21, true)), .faddr (.t 1) 1⟩,
    ⟨(some 23), (some (21, true)), .load 4 none (.t 22)⟩,
    ⟨(some 24), (some (21, true)), .faddr (.t 1) 2⟩,
    ⟨(some 25), (some (21, true)), .load 4 none (.t 24)⟩,
    ⟨(some 26), (some (21, true)), .bin .lss (.t 23) (.t 25)⟩,
    ⟨(some 27), none, .pick (.t 21) (.t 26) (.c (.bool false))⟩,
    ⟨(some 2), none, .mv (.t 27)⟩])
  .ret))⟩
-- span.Covers [iso]
def c152 : AFn := ⟨2, [.tmp 4], false,
  (.seq (.ins [⟨(some 3), none, .boxv 3 (.t 1)⟩,
    ⟨(some 4), none, .mv (.c (.bool false))⟩])
  (.seq (.seq (.ins [⟨(some 7), none, .mv (.t 0)⟩,
    ⟨(some 8), none, .len (.t 7)⟩,
    ⟨(some 9), none, .mv (.c (.int .i64 0))⟩])
  (.block 0 (.loop (.seq (.ins [⟨(some 10), none, .bin .lss (.t 9) (.t 8)⟩])
      (.seq (.cond (.t 10)
        .skip
        (.exit 0))
      (.seq (.block 1 (.seq (.ins [⟨(some 11), none, .iaddr 3 (.t 7) (.t 9)⟩,
          ⟨(some 12), none, .load 2 (some 3) (.t 11)⟩,
          ⟨(some 6), none, .allocv [.int .i64 0, .int .i64 0, .int .i64 0]⟩,
          ⟨none, none, .store 9 3 0 (.t 6) (.t 12)⟩])
        (.seq (.ins [⟨(some 13), none, .load 9 (some 3) (.t 6)⟩,
          ⟨(some 14), none, .load 6 (some 3) (.t 3)⟩,
          ⟨(some 15), none, .call .iso false 233 [(.t 13), (.t 14)]⟩,
          ⟨(some 16), none, .load 6 (some 3) (.t 3)⟩,
          ⟨(some 17), none, .eqv false true [.i, .i, .i] (.t 15) (.t 16)⟩])
        (.cond (.t 17)
          (.seq (.ins [⟨(some 4), none, .mv (.c (.bool true))⟩])
          .ret)
          .skip))))
      (.ins [⟨(some 18), none, .bin .add (.t 9) (.c (.int .i64 1))⟩,
        ⟨(some 9), none, .mv (.t 18)⟩])))))))
  (.seq (.ins [⟨(some 4), none, .mv (.c (.bool false))⟩])
  .ret)))⟩
-- plan.control [iso]
def c153 : AFn := ⟨1, [.cell 2 (some 3)], false,
  (.seq (.ins [⟨(some 2), none, .allocv [.int .i64 0, .int .i64 0, .int .i64 0]⟩])
  (.seq (.ins [⟨(some 3), none, .mv (.t 0)⟩,
    ⟨(some 4), none, .mv (.t 0)⟩,
    ⟨(some 5), none, .bin .add (.t 4) (.c (.int .i64 8))⟩,
    ⟨(some 6), none, .build [.int .i64 0, .int .i64 0, .int .i64 0] [(0, 1, (.c (.int .i64 2))), (1, 1, (.t 3)), (2, 1, (.t 5))]⟩,
    ⟨none, none, .store 5 3 0 (.t 2) (.t 6)⟩])
  .ret))⟩
-- slices.IndexFunc[[]api.Span,api.Span] [iso]
def c156 : AFn := ⟨2, [.tmp 4], false,
  (.seq (.ins [⟨(some 4), none, .mv (.c (.int .i64 0))⟩])
  (.seq (.seq (.ins [⟨(some 6), none, .mv (.t 0)⟩,
    ⟨(some 7), none, .len (.t 6)⟩,
    ⟨(some 8), none, .mv (.c (.int .i64 0))⟩])
  (.block 0 (.loop (.seq (.ins [⟨(some 9), none, .bin .lss (.t 8) (.t 7)⟩])
      (.seq (.cond (.t 9)
        .skip
        (.exit 0))
      (.seq (.block 1 (.seq (.ins [⟨(some 10), none, .mv (.t 8)⟩,
          ⟨(some 5), none, .mv (.t 10)⟩])
        (.seq (.ins [⟨(some 11), none, .mv (.t 1)⟩,
          ⟨(some 12), none, .mv (.t 0)⟩,
          ⟨(some 13), none, .mv (.t 5)⟩,
          ⟨(some 14), none, .iaddr 3 (.t 12) (.t 13)⟩,
          ⟨(some 15), none, .load 2 (some 3) (.t 14)⟩,
          ⟨(some 16), none, .callv .iso false (.t 11) [(.t 15)]⟩])
        (.cond (.t 16)
          (.seq (.ins [⟨(some 17), none, .mv (.t 5)⟩,
            ⟨(some 4), none, .mv (.t 17)⟩])
          .ret)
          .skip))))
      (.ins [⟨(some 18), none, .bin .add (.t 8) (.c (.int .i64 1))⟩,
        ⟨(some 8), none, .mv (.t 18)⟩])))))))
  (.seq (.ins [⟨(some 4), none, .mv (.c (.int .i64 (-1)))⟩])
  .ret)))⟩
-- ctrl.Order [iso]
def c159 : AFn := ⟨2, [.tmp 4, .tmp 5], false,
  (.seq (.ins [⟨(some 2), none, .boxv 12 (.t 0)⟩,
    ⟨(some 4), none, .mv (.c (.int .i64 0))⟩,
    ⟨(some 5), none, .mv (.c (.bool false))⟩])
  (.seq (.block 0 (.seq (.ins [⟨(some 7), none, .faddr (.t 2) 1⟩,
      ⟨(some 8), none, .load 5 none (.t 7)⟩,
      ⟨(some 9), none, .mv (.t 1)⟩,
      ⟨(some 10), none, .bin .neq (.t 8) (.t 9)⟩,
      ⟨(some 6), none, .mv (.t 10)⟩])
    (.cond (.t 6)
      .skip
      (.seq (.ins [⟨(some 12), none, .faddr (.t 2) 0⟩,
        ⟨(some 13), none, .load 5 none (.t 12)⟩,
        ⟨(some 14), none, .bin .eql (.t 13) (.c (.int .i64 6))⟩,
        ⟨(some 11), none, .mv (.t 14)⟩])
      (.cond (.t 11)
        (.seq (.ins [⟨(some 15), none, .faddr (.t 2) 3⟩,
          ⟨(some 16), none, .load 5 none (.t 15)⟩,
          ⟨(some 17), none, .convi .i64 (.t 16)⟩,
          ⟨(some 4), none, .mv (.t 17)⟩,
          ⟨(some 5), none, .mv (.c (.bool true))⟩])
        .ret)
        (.seq (.ins [⟨(some 19), none, .faddr (.t 2) 0⟩,
          ⟨(some 20), none, .load 5 none (.t 19)⟩,
          ⟨(some 21), none, .bin .eql (.t 20) (.c (.int .i64 16))⟩,
          ⟨(some 22), none, .mv (.t 21)⟩,
          ⟨(some 23), (some (22, true)), .faddr (.t 2) 2⟩,
          ⟨(some 24), (some (22, true)), .load 5 none (.t 23)⟩,
          ⟨(some 25), (some (22, true)), .bin .eql (.t 24) (.c (.int .i64 1))⟩,
          ⟨(some 26), none, .pick (.t 22) (.t 25) (.c (.bool false))⟩,
          ⟨(some 27), none, .mv (.t 26)⟩,
          ⟨(some 28), (some (27, true)), .faddr (.t 2) 7⟩,
          ⟨(some 29), (some (27, true)), .load 5 none (.t 28)⟩,
          ⟨(some 30), (some (27, true)), .len (.t 29)⟩,
          ⟨(some 31), (some (27, true)), .bin .eql (.t 30) (.c (.int .i64 1))⟩,
          ⟨(some 32), none, .pick (.t 27) (.t 31) (.c (.bool false))⟩,
          ⟨(some 18), none, .mv (.t 32)⟩])
        (.cond (.t 18)
          (.seq (.ins [⟨(some 33), none, .faddr (.t 2) 7⟩,
            ⟨(some 34), none, .load 5 none (.t 33)⟩,
            ⟨(some 35), none, .iaddr 1 (.t 34) (.c (.int .i64 0))⟩,
            ⟨(some 36), none, .load 1 none (.t 35)⟩,
            ⟨(some 37), none, .convi .i64 (.t 36)⟩,
            ⟨(some 4), none, .mv (.t 37)⟩,
            ⟨(some 5), none, .mv (.c (.bool true))⟩])
          .ret)
          .skip)))))))
  (.seq (.ins [⟨(some 4), none, .mv (.c (.int .i64 0))⟩,
    ⟨(some 5), none, .mv (.c (.bool false))⟩])
  .ret)))⟩
-- exec.command [iso]
def c160 : AFn := ⟨1, [.tmp 2], false,
  (.seq (.ins [⟨(some 2), none, .mv (.c (.nilf))⟩])
  (.seq (.seq (.ins [⟨(some 3), none, .mv (.t 0)⟩])
  (.block 0 (.seq (.ins [⟨(some 5), none, .bin .eql (.t 3) (.c (.int .i64 1))⟩,
      ⟨(some 4), none, .mv (.t 5)⟩])
    (.cond (.t 4)
      (.seq (.ins [⟨(some 2), none, .mv (.f 236)⟩])
      .ret)
      (.seq (.ins [⟨(some 7), none, .bin .eql (.t 3) (.c (.int .i64 2))⟩,
        ⟨(some 6), none, .mv (.t 7)⟩])
      (.cond (.t 6)
        (.seq (.ins [⟨(some 2), none, .mv (.f 237)⟩])
        .ret)
        (.seq (.ins [⟨(some 9), none, .bin .eql (.t 3) (.c (.int .i64 3))⟩,
          ⟨(some 8), none, .mv (.t 9)⟩])
        (.cond (.t 8)
          (.seq (.ins [⟨(some 2), none, .mv (.f 238)⟩])
          .ret)
          .skip))))))))
  (.seq (.ins [⟨(some 2), none, .mv (.c (.nilf))⟩])
  .ret)))⟩
-- tell.Echo [iso]
def c161 : AFn := ⟨1, [.cell 2 (some 14)], false,
  (.seq (.ins [⟨(some 1), none, .boxv 12 (.t 0)⟩,
    ⟨(some 2), none, .allocv [.int .i64 0, .int .i64 0, .sl 1 [] (some []), .sl 1 [] (some []), .int .i64 0, .int .i64 0, .int .u16 0, .int .u16 0, .int .u16 0, .int .i64 0, .int .i64 0, .bool false, .int .i64 0, .sl 2 [] (some [])]⟩])
  (.seq (.seq (.ins [⟨(some 3), none, .load 4 (some 12) (.t 1)⟩,
    ⟨(some 4), none, .call .iso true 71 [(.t 3)]⟩,
    ⟨(some 5), none, .not (.t 4)⟩])
  (.cond (.t 5)
    (.seq (.ins [⟨(some 6), none, .build [.int .i64 0, .int .i64 0, .sl 1 [] (some []), .sl 1 [] (some []), .int .i64 0, .int .i64 0, .int .u16 0, .int .u16 0, .int .u16 0, .int .i64 0, .int .i64 0, .bool false, .int .i64 0, .sl 2 [] (some [])] []⟩,
      ⟨none, none, .store 5 14 0 (.t 2) (.t 6)⟩])
    .ret)
    .skip))
  (.seq (.seq (.ins [⟨(some 7), none, .faddr (.t 1) 0⟩,
    ⟨(some 8), none, .load 4 none (.t 7)⟩])
  (.block 0 (.seq (.seq (.ins [⟨(some 10), none, .bin .eql (.t 8) (.c (.int .i64 5))⟩,
      ⟨(some 9), none, .mv (.t 10)⟩])
    (.cond (.t 9)
      .skip
      (.ins [⟨(some 11), none, .bin .eql (.t 8) (.c (.int .i64 6))⟩,
        ⟨(some 9), none, .mv (.t 11)⟩])))
    (.cond (.t 9)
      (.seq (.ins [⟨(some 12), none, .faddr (.t 1) 0⟩,
        ⟨(some 13), none, .load 4 none (.t 12)⟩,
        ⟨(some 14), none, .faddr (.t 1) 1⟩,
        ⟨(some 15), none, .load 4 none (.t 14)⟩,
        ⟨(some 16), none, .faddr (.t 1) 3⟩,
        ⟨(some 17), none, .load 4 none (.t 16)⟩,
        ⟨(some 18), none, .build [.int .i64 0, .int .i64 0, .sl 1 [] (some []), .sl 1 [] (some []), .int .i64 0, .int .i64 0, .int .u16 0, .int .u16 0, .int .u16 0, .int .i64 0, .int .i64 0, .bool false, .int .i64 0, .sl 2 [] (some [])] [(0, 1, (.t 13)), (4, 1, (.t 15)), (6, 1, (.t 17))]⟩,
        ⟨none, none, .store 5 14 0 (.t 2) (.t 18)⟩])
      .ret)
      (.seq (.seq (.ins [⟨(some 20), none, .bin .eql (.t 8) (.c (.int .i64 15))⟩,
        ⟨(some 19), none, .mv (.t 20)⟩])
      (.cond (.t 19)
        .skip
        (.ins [⟨(some 21), none, .bin .eql (.t 8) (.c (.int .i64 16))⟩,
          ⟨(some 19), none, .mv (.t 21)⟩])))
      (.cond (.t 19)
        (.seq (.ins [⟨(some 22), none, .faddr (.t 1) 0⟩,
          ⟨(some 23), none, .load 4 none (.t 22)⟩,
          ⟨(some 24), none, .faddr (.t 1) 1⟩,
          ⟨(some 25), none, .load 4 none (.t 24)⟩,
          ⟨(some 26), none, .faddr (.t 1) 2⟩,
          ⟨(some 27), none, .load 4 none (.t 26)⟩,
          ⟨(some 28), none, .build [.int .i64 0, .int .i64 0, .sl 1 [] (some []), .sl 1 [] (some []), .int .i64 0, .int .i64 0, .int .u16 0, .int .u16 0, .int .u16 0, .int .i64 0, .int .i64 0, .bool false, .int .i64 0, .sl 2 [] (some [])] [(0, 1, (.t 23)), (4, 1, (.t 25)), (5, 1, (.t 27))]⟩,
          ⟨none, none, .store 5 14 0 (.t 2) (.t 28)⟩])
        .ret)
        (.seq (.ins [⟨(some 30), none, .bin .eql (.t 8) (.c (.int .i64 22))⟩,
          ⟨(some 29), none, .mv (.t 30)⟩])
        (.cond (.t 29)
          (.seq (.ins [⟨(some 31), none, .faddr (.t 1) 0⟩,
            ⟨(some 32), none, .load 4 none (.t 31)⟩,
            ⟨(some 33), none, .faddr (.t 1) 1⟩,
            ⟨(some 34), none, .load 4 none (.t 33)⟩,
            ⟨(some 35), none, .faddr (.t 1) 4⟩,
            ⟨(some 36), none, .load 4 none (.t 35)⟩,
            ⟨(some 37), none, .faddr (.t 1) 5⟩,
            ⟨(some 38), none, .load 4 none (.t 37)⟩,
            ⟨(some 39), none, .build [.int .i64 0, .int .i64 0, .sl 1 [] (some []), .sl 1 [] (some []), .int .i64 0, .int .i64 0, .int .u16 0, .int .u16 0, .int .u16 0, .int .i64 0, .int .i64 0, .bool false, .int .i64 0, .sl 2 [] (some [])] [(0, 1, (.t 32)), (4, 1, (.t 34)), (7, 1, (.t 36)), (8, 1, (.t 38))]⟩,
            ⟨none, none, .store 5 14 0 (.t 2) (.t 39)⟩])
          .ret)
          .skip))))))))
  (.seq (.ins [⟨(some 40), none, .build [.int .i64 0, .int .i64 0, .sl 1 [] (some []), .sl 1 [] (some []), .int .i64 0, .int .i64 0, .int .u16 0, .int .u16 0, .int .u16 0, .int .i64 0, .int .i64 0, .bool false, .int .i64 0, .sl 2 [] (some [])] []⟩,
    ⟨none, none, .store 5 14 0 (.t 2) (.t 40)⟩])
  .ret))))⟩
-- busbarref1.Known [iso]
def c165 : AFn := ⟨1, [.tmp 2], false,
  (.seq (.ins [⟨(some 2), none, .mv (.c (.bool false))⟩])
  (.seq (.ins [⟨(some 3), none, .mv (.t 0)⟩,
    ⟨(some 4), none, .bin .geq (.t 3) (.c (.int .i64 1))⟩,
    ⟨(some 5), none, .mv (.t 4)⟩,
    ⟨(some 6), (some (5, true)), .mv (.t 0)⟩,
    ⟨(some 7), (some (5, true)), .bin .leq (.t 6) (.c (.int .i64 6))⟩,
    ⟨(some 8), none, .pick (.t 5) (.t 7) (.c (.bool false))⟩,
    ⟨(some 9), none, .mv (.t 8)⟩,
    ⟨(some 10), (some (9, false)), .mv (.t 0)⟩,
    ⟨(some 11), (some (9, false)), .bin .eql (.t 10) (.c (.int .i64 15))⟩,
    ⟨(some 12), none, .pick (.t 9) (.c (.bool true)) (.t 11)⟩,
    ⟨(some 13), none, .mv (.t 12)⟩,
    ⟨(some 14), (some (13, false)), .mv (.t 0)⟩,
    ⟨(some 15), (some (13, false)), .bin .eql (.t 14) (.c (.int .i64 16))⟩,
    ⟨(some 16), none, .pick (.t 13) (.c (.bool true)) (.t 15)⟩,
    ⟨(some 17), none, .mv (.t 16)⟩,
    ⟨(some 18), (some (17, false)), .mv (.t 0)⟩,
    ⟨(some 19), (some (17, false)), .bin .eql (.t 18) (.c (.int .i64 22))⟩,
    ⟨(some 20), none, .pick (.t 17) (.c (.bool true)) (.t 19)⟩,
    ⟨(some 21), none, .mv (.t 20)⟩,
    ⟨(some 22), (some (21, false)), .mv (.t 0)⟩,
    ⟨(some 23), (some (21, false)), .bin .eql (.t 22) (.c (.int .i64 23))⟩,
    ⟨(some 24), none, .pick (.t 21) (.c (.bool true)) (.t 23)⟩,
    ⟨(some 25), none, .mv (.t 24)⟩,
    ⟨(some 26), (some (25, false)), .mv (.t 0)⟩,
    ⟨(some 27), (some (25, false)), .bin .eql (.t 26) (.c (.int .i64 43))⟩,
    ⟨(some 28), none, .pick (.t 25) (.c (.bool true)) (.t 27)⟩,
    ⟨(some 2), none, .mv (.t 28)⟩])
  .ret))⟩
-- busbarref5.plain [iso]
def c166 : AFn := ⟨1, [.tmp 2], false,
  (.seq (.ins [⟨(some 1), none, .boxv 12 (.t 0)⟩,
    ⟨(some 2), none, .mv (.c (.bool false))⟩])
  (.seq (.ins [⟨(some 7), none, .faddr (.t 1) 0⟩,
    ⟨(some 8), none, .load 4 none (.t 7)⟩,
    ⟨(some 3), none, .mv (.t 8)⟩])
  (.seq (.ins [⟨(some 9), none, .mv (.t 3)⟩,
    ⟨(some 10), none, .bin .geq (.t 9) (.c (.int .i64 1))⟩,
    ⟨(some 11), none, .mv (.t 10)⟩,
    ⟨(some 12), (some (11, true)), .mv (.t 3)⟩,
    ⟨(some 13), (some (11, true)), .bin .leq (.t 12) (.c (.int .i64 4))⟩,
    ⟨(some 14), none, .pick (.t 11) (.t 13) (.c (.bool false))⟩,
    ⟨(some 4), none, .mv (.t 14)⟩])
  (.seq (.ins [⟨(some 15), none, .mv (.t 3)⟩,
    ⟨(some 16), none, .bin .eql (.t 15) (.c (.int .i64 15))⟩,
    ⟨(some 17), none, .mv (.t 16)⟩,
    ⟨(some 18), (some (17, false)), .mv (.t 3)⟩,
    ⟨(some 19), (some (17, false)), .bin .eql (.t 18) (.c (.int .i64 16))⟩,
    ⟨(some 20), none, .pick (.t 17) (.c (.bool true)) (.t 19)⟩,
    ⟨(some 21), none, .mv (.t 20)⟩,
    ⟨(some 22), (some (21, false)), .mv (.t 3)⟩,
    ⟨(some 23), (some (21, false)), .bin .eql (.t 22) (.c (.int .i64 23))⟩,
    ⟨(some 24), none, .pick (.t 21) (.c (.bool true)) (.t 23)⟩,
    ⟨(some 5), none, .mv (.t 24)⟩])
  (.seq (.ins [⟨(some 25), none, .mv (.t 3)⟩,
    ⟨(some 26), none, .bin .eql (.t 25) (.c (.int .i64 5))⟩,
    ⟨(some 27), none, .mv (.t 26)⟩,
    ⟨(some 28), (some (27, false)), .mv (.t 3)⟩,
    ⟨(some 29), (some (27, false)), .bin .eql (.t 28) (.c (.int .i64 6))⟩,
    ⟨(some 30), none, .pick (.t 27) (.c (.bool true)) (.t 29)⟩,
    ⟨(some 31), none, .mv (.t 30)⟩,
    ⟨(some 32), (some (31, false)), .mv (.t 3)⟩,
    ⟨(some 33), (some (31, false)), .bin .eql (.t 32) (.c (.int .i64 22))⟩,
    ⟨(some 34), none, .pick (.t 31) (.c (.bool true)) (.t 33)⟩,
    ⟨(some 6), none, .mv (.t 34)⟩])
  (.seq (.block 0 (.seq (.ins [⟨(some 36), none, .mv (.t 4)⟩,
      ⟨(some 37), none, .not (.t 36)⟩,
      ⟨(some 38), none, .mv (.t 37)⟩,
      ⟨(some 39), (some (38, true)), .mv (.t 5)⟩,
      ⟨(some 40), (some (38, true)), .not (.t 39)⟩,
      ⟨(some 41), none, .pick (.t 38) (.t 40) (.c (.bool false))⟩,
      ⟨(some 42), none, .mv (.t 41)⟩,
      ⟨(some 43), (some (42, true)), .mv (.t 6)⟩,
      ⟨(some 44), (some (42, true)), .not (.t 43)⟩,
      ⟨(some 45), none, .pick (.t 42) (.t 44) (.c (.bool false))⟩,
      ⟨(some 46), none, .mv (.t 45)⟩,
      ⟨(some 47), (some (46, true)), .faddr (.t 1) 1⟩,
      ⟨(some 48), (some (46, true)), .load 4 none (.t 47)⟩,
      ⟨(some 49), (some (46, true)), .bin .neq (.t 48) (.c (.int .i64 0))⟩,
      ⟨(some 50), none, .pick (.t 46) (.t 49) (.c (.bool false))⟩,
      ⟨(some 35), none, .mv (.t 50)⟩])
    (.cond (.t 35)
      (.seq (.ins [⟨(some 2), none, .mv (.c (.bool false))⟩])
      .ret)
      (.seq (.ins [⟨(some 52), none, .mv (.t 4)⟩,
        ⟨(some 53), none, .not (.t 52)⟩,
        ⟨(some 54), none, .mv (.t 53)⟩,
        ⟨(some 55), (some (54, true)), .mv (.t 5)⟩,
        ⟨(some 56), (some (54, true)), .not (.t 55)⟩,
        ⟨(some 57), none, .pick (.t 54) (.t 56) (.c (.bool false))⟩,
        ⟨(some 58), none, .mv (.t 57)⟩,
        ⟨(some 59), (some (58, true)), .faddr (.t 1) 2⟩,
        ⟨(some 60), (some (58, true)), .load 4 none (.t 59)⟩,
        ⟨(some 61), (some (58, true)), .bin .neq (.t 60) (.c (.int .i64 0))⟩,
        ⟨(some 62), none, .pick (.t 58) (.t 61) (.c (.bool false))⟩,
        ⟨(some 51), none, .mv (.t 62)⟩])
      (.cond (.t 51)
        (.seq (.ins [⟨(some 2), none, .mv (.c (.bool false))⟩])
        .ret)
        (.seq (.ins [⟨(some 64), none, .mv (.t 3)⟩,
          ⟨(some 65), none, .bin .neq (.t 64) (.c (.int .i64 5))⟩,
          ⟨(some 66), none, .mv (.t 65)⟩,
          ⟨(some 67), (some (66, true)), .mv (.t 3)⟩,
          ⟨(some 68), (some (66, true)), .bin .neq (.t 67) (.c (.int .i64 6))⟩,
          ⟨(some 69), none, .pick (.t 66) (.t 68) (.c (.bool false))⟩,
          ⟨(some 70), none, .mv (.t 69)⟩,
          ⟨(some 71), (some (70, true)), .faddr (.t 1) 3⟩,
          ⟨(some 72), (some (70, true)), .load 4 none (.t 71)⟩,
          ⟨(some 73), (some (70, true)), .bin .neq (.t 72) (.c (.int .u16 0))⟩,
          ⟨(some 74), none, .pick (.t 70) (.t 73) (.c (.bool false))⟩,
          ⟨(some 63), none, .mv (.t 74)⟩])
        (.cond (.t 63)
          (.seq (.ins [⟨(some 2), none, .mv (.c (.bool false))⟩])
          .ret)
          (.seq (.ins [⟨(some 76), none, .mv (.t 3)⟩,
            ⟨(some 77), none, .bin .neq (.t 76) (.c (.int .i64 22))⟩,
            ⟨(some 78), none, .mv (.t 77)⟩,
            ⟨(some 79), (some (78, true)), .faddr (.t 1) 4⟩,
            ⟨(some 80), (some (78, true)), .load 4 none (.t 79)⟩,
            ⟨(some 81), (some (78, true)), .bin .neq (.t 80) (.c (.int .u16 0))⟩,
            ⟨(some 82), (some (78, true)), .mv (.t 81)⟩,
            ⟨(some 83), (some (82, false)), .faddr (.t 1) 5⟩,
            ⟨(some 84), (some (82, false)), .load 4 none (.t 83)⟩,
            ⟨(some 85), (some (82, false)), .bin .neq (.t 84) (.c (.int .u16 0))⟩,
            ⟨(some 86), (some (78, true)), .pick (.t 82) (.c (.bool true)) (.t 85)⟩,
            ⟨(some 87), none, .pick (.t 78) (.t 86) (.c (.bool false))⟩,
            ⟨(some 75), none, .mv (.t 87)⟩])
          (.cond (.t 75)
            (.seq (.ins [⟨(some 2), none, .mv (.c (.bool false))⟩])
            .ret)
            (.seq (.ins [⟨(some 89), none, .mv (.t 3)⟩,
              ⟨(some 90), none, .bin .neq (.t 89) (.c (.int .i64 15))⟩,
              ⟨(some 91), none, .mv (.t 90)⟩,
              ⟨(some 92), (some (91, true)), .faddr (.t 1) 6⟩,
              ⟨(some 93), (some (91, true)), .load 4 none (.t 92)⟩,
              ⟨(some 94), (some (91, true)), .len (.t 93)⟩,
              ⟨(some 95), (some (91, true)), .bin .gtr (.t 94) (.c (.int .i64 0))⟩,
              ⟨(some 96), none, .pick (.t 91) (.t 95) (.c (.bool false))⟩,
              ⟨(some 88), none, .mv (.t 96)⟩])
            (.cond (.t 88)
              (.seq (.ins [⟨(some 2), none, .mv (.c (.bool false))⟩])
              .ret)
              (.seq (.ins [⟨(some 98), none, .mv (.t 3)⟩,
                ⟨(some 99), none, .bin .neq (.t 98) (.c (.int .i64 16))⟩,
                ⟨(some 100), none, .mv (.t 99)⟩,
                ⟨(some 101), (some (100, true)), .mv (.t 3)⟩,
                ⟨(some 102), (some (100, true)), .bin .neq (.t 101) (.c (.int .i64 23))⟩,
                ⟨(some 103), none, .pick (.t 100) (.t 102) (.c (.bool false))⟩,
                ⟨(some 104), none, .mv (.t 103)⟩,
                ⟨(some 105), (some (104, true)), .faddr (.t 1) 7⟩,
                ⟨(some 106), (some (104, true)), .load 4 none (.t 105)⟩,
                ⟨(some 107), (some (104, true)), .len (.t 106)⟩,
                ⟨(some 108), (some (104, true)), .bin .gtr (.t 107) (.c (.int .i64 0))⟩,
                ⟨(some 109), none, .pick (.t 104) (.t 108) (.c (.bool false))⟩,
                ⟨(some 97), none, .mv (.t 109)⟩])
              (.cond (.t 97)
                (.seq (.ins [⟨(some 2), none, .mv (.c (.bool false))⟩])
                .ret)
                (.seq (.ins [⟨(some 111), none, .mv (.t 3)⟩,
                  ⟨(some 112), none, .bin .neq (.t 111) (.c (.int .i64 23))⟩,
                  ⟨(some 113), none, .mv (.t 112)⟩,
                  ⟨(some 114), (some (113, true)), .faddr (.t 1) 8⟩,
                  ⟨(some 115), (some (113, true)), .load 4 none (.t 114)⟩,
                  ⟨(some 116), (some (113, true)), .bin .neq (.t 115) (.c (.int .i64 0))⟩,
                  ⟨(some 117), (some (113, true)), .mv (.t 116)⟩,
                  ⟨(some 118), (some (117, false)), .faddr (.t 1) 9⟩,
                  ⟨(some 119), (some (117, false)), .load 4 none (.t 118)⟩,
                  ⟨(some 120), (some (117, false)), .bin .neq (.t 119) (.c (.int .i64 0))⟩,
                  ⟨(some 121), (some (113, true)), .pick (.t 117) (.c (.bool true)) (.t 120)⟩,
                  ⟨(some 122), none, .pick (.t 113) (.t 121) (.c (.bool false))⟩,
                  ⟨(some 110), none, .mv (.t 122)⟩])
                (.cond (.t 110)
                  (.seq (.ins [⟨(some 2), none, .mv (.c (.bool false))⟩])
                  .ret)
                  (.seq (.ins [⟨(some 124), none, .mv (.t 3)⟩,
                    ⟨(some 125), none, .bin .neq (.t 124) (.c (.int .i64 43))⟩,
                    ⟨(some 126), none, .mv (.t 125)⟩,
                    ⟨(some 127), (some (126, true)), .faddr (.t 1) 10⟩,
                    ⟨(some 128), (some (126, true)), .load 4 none (.t 127)⟩,
                    ⟨(some 129), (some (126, true)), .bin .neq (.t 128) (.c (.int .i64 0))⟩,
                    ⟨(some 130), (some (126, true)), .mv (.t 129)⟩,
                    ⟨(some 131), (some (130, false)), .faddr (.t 1) 11⟩,
                    ⟨(some 132), (some (130, false)), .load 4 none (.t 131)⟩,
                    ⟨(some 133), (some (130, false)), .bin .neq (.t 132) (.c (.int .i64 0))⟩,
                    ⟨(some 134), (some (126, true)), .pick (.t 130) (.c (.bool true)) (.t 133)⟩,
                    ⟨(some 135), none, .pick (.t 126) (.t 134) (.c (.bool false))⟩,
                    ⟨(some 123), none, .mv (.t 135)⟩])
                  (.cond (.t 123)
                    (.seq (.ins [⟨(some 2), none, .mv (.c (.bool false))⟩])
                    .ret)
                    .skip)))))))))))))))))
  (.seq (.ins [⟨(some 2), none, .mv (.c (.bool true))⟩])
  .ret)))))))⟩
-- busbarref5.place [iso]
def c167 : AFn := ⟨1, [.tmp 2], false,
  (.seq (.ins [⟨(some 2), none, .mv (.c (.bool false))⟩])
  (.seq (.ins [⟨(some 3), none, .mv (.t 0)⟩,
    ⟨(some 4), none, .bin .geq (.t 3) (.c (.int .i64 0))⟩,
    ⟨(some 5), none, .mv (.t 4)⟩,
    ⟨(some 6), (some (5, true)), .mv (.t 0)⟩,
    ⟨(some 7), (some (5, true)), .bin .leq (.t 6) (.c (.int .i64 65535))⟩,
    ⟨(some 8), none, .pick (.t 5) (.t 7) (.c (.bool false))⟩,
    ⟨(some 2), none, .mv (.t 8)⟩])
  .ret))⟩
-- busbarref1.Most [iso]
def c168 : AFn := ⟨1, [.tmp 2, .tmp 3], false,
  (.seq (.ins [⟨(some 2), none, .mv (.c (.int .i64 0))⟩,
    ⟨(some 3), none, .mv (.c (.int .i64 0))⟩])
  (.seq (.seq (.ins [⟨(some 4), none, .mv (.t 0)⟩])
  (.block 0 (.seq (.seq (.ins [⟨(some 6), none, .bin .eql (.t 4) (.c (.int .i64 1))⟩,
      ⟨(some 5), none, .mv (.t 6)⟩])
    (.cond (.t 5)
      .skip
      (.ins [⟨(some 7), none, .bin .eql (.t 4) (.c (.int .i64 2))⟩,
        ⟨(some 5), none, .mv (.t 7)⟩])))
    (.cond (.t 5)
      (.seq (.ins [⟨(some 2), none, .mv (.c (.int .i64 2000))⟩,
        ⟨(some 3), none, .mv (.c (.int .i64 0))⟩])
      .ret)
      (.seq (.seq (.ins [⟨(some 9), none, .bin .eql (.t 4) (.c (.int .i64 3))⟩,
        ⟨(some 8), none, .mv (.t 9)⟩])
      (.cond (.t 8)
        .skip
        (.ins [⟨(some 10), none, .bin .eql (.t 4) (.c (.int .i64 4))⟩,
          ⟨(some 8), none, .mv (.t 10)⟩])))
      (.cond (.t 8)
        (.seq (.ins [⟨(some 2), none, .mv (.c (.int .i64 125))⟩,
          ⟨(some 3), none, .mv (.c (.int .i64 0))⟩])
        .ret)
        (.seq (.seq (.ins [⟨(some 12), none, .bin .eql (.t 4) (.c (.int .i64 5))⟩,
          ⟨(some 11), none, .mv (.t 12)⟩])
        (.cond (.t 11)
          .skip
          (.seq (.ins [⟨(some 13), none, .bin .eql (.t 4) (.c (.int .i64 6))⟩,
            ⟨(some 11), none, .mv (.t 13)⟩])
          (.cond (.t 11)
            .skip
            (.ins [⟨(some 14), none, .bin .eql (.t 4) (.c (.int .i64 22))⟩,
              ⟨(some 11), none, .mv (.t 14)⟩])))))
        (.cond (.t 11)
          (.seq (.ins [⟨(some 2), none, .mv (.c (.int .i64 0))⟩,
            ⟨(some 3), none, .mv (.c (.int .i64 1))⟩])
          .ret)
          (.seq (.ins [⟨(some 16), none, .bin .eql (.t 4) (.c (.int .i64 15))⟩,
            ⟨(some 15), none, .mv (.t 16)⟩])
          (.cond (.t 15)
            (.seq (.ins [⟨(some 2), none, .mv (.c (.int .i64 0))⟩,
              ⟨(some 3), none, .mv (.c (.int .i64 1968))⟩])
            .ret)
            (.seq (.ins [⟨(some 18), none, .bin .eql (.t 4) (.c (.int .i64 16))⟩,
              ⟨(some 17), none, .mv (.t 18)⟩])
            (.cond (.t 17)
              (.seq (.ins [⟨(some 2), none, .mv (.c (.int .i64 0))⟩,
                ⟨(some 3), none, .mv (.c (.int .i64 123))⟩])
              .ret)
              (.seq (.ins [⟨(some 20), none, .bin .eql (.t 4) (.c (.int .i64 23))⟩,
                ⟨(some 19), none, .mv (.t 20)⟩])
              (.cond (.t 19)
                (.seq (.ins [⟨(some 2), none, .mv (.c (.int .i64 125))⟩,
                  ⟨(some 3), none, .mv (.c (.int .i64 121))⟩])
                .ret)
                .skip))))))))))))))
  (.seq (.ins [⟨(some 2), none, .mv (.c (.int .i64 0))⟩,
    ⟨(some 3), none, .mv (.c (.int .i64 0))⟩])
  .ret)))⟩
-- (*lease.Book).Drop [rw]
def c170 : AFn := ⟨2, [.tmp 4], false,
  (.seq (.ins [⟨(some 4), none, .mv (.c (.bool false))⟩])
  (.seq (.ins [⟨(some 8), none, .mv (.t 0)⟩,
    ⟨(some 9), none, .nilc (.t 8)⟩,
    ⟨(some 10), none, .faddr (.t 9) 1⟩,
    ⟨(some 11), none, .load 2 none (.t 10)⟩,
    ⟨(some 12), none, .mv (.t 1)⟩,
    ⟨(some 13), none, .lookup false [.i] (.int .i64 0) (.t 11) (.t 12) true⟩,
    ⟨(some 7), none, .mv (.t 13)⟩,
    ⟨(some 14), none, .ext (.t 7) 0⟩,
    ⟨(some 15), none, .ext (.t 7) 1⟩,
    ⟨(some 5), none, .mv (.t 14)⟩,
    ⟨(some 6), none, .mv (.t 15)⟩])
  (.seq (.ins [⟨(some 16), none, .mv (.t 0)⟩,
    ⟨(some 17), none, .nilc (.t 16)⟩,
    ⟨(some 18), none, .faddr (.t 17) 1⟩,
    ⟨(some 19), none, .load 2 none (.t 18)⟩,
    ⟨(some 20), none, .mv (.t 1)⟩,
    ⟨none, none, .del false [.i] (.t 19) (.t 20)⟩])
  (.seq (.ins [⟨(some 21), none, .mv (.t 6)⟩,
    ⟨(some 4), none, .mv (.t 21)⟩])
  .ret))))⟩
-- (*sess.Sess).open [ro]
def c190 : AFn := ⟨2, [.tmp 4], false,
  (.seq (.ins [⟨(some 4), none, .mv (.c (.bool false))⟩])
  (.seq (.ins [⟨(some 5), none, .mv (.t 0)⟩,
    ⟨(some 6), none, .nilc (.t 5)⟩,
    ⟨(some 7), none, .faddr (.t 6) 3⟩,
    ⟨(some 8), none, .load 2 none (.t 7)⟩,
    ⟨(some 9), none, .mv (.t 1)⟩,
    ⟨(some 10), none, .lookup false [.i] (.agg [.int .i64 0, .int .i64 0, .int .i64 0, .int .u64 0]) (.t 8) (.t 9) false⟩,
    ⟨(some 11), none, .fld (.t 10) 0 (some 4)⟩,
    ⟨(some 12), none, .fld (.t 11) 0 none⟩,
    ⟨(some 13), none, .bin .eql (.t 12) (.c (.int .i64 1))⟩,
    ⟨(some 4), none, .mv (.t 13)⟩])
  .ret))⟩
-- (*lease.Book).Hear [rw]
def c191 : AFn := ⟨2, [], false,
  (.ins [⟨(some 4), none, .mv (.t 0)⟩,
    ⟨(some 5), none, .nilc (.t 4)⟩,
    ⟨(some 6), none, .faddr (.t 5) 1⟩,
    ⟨(some 7), none, .load 2 none (.t 6)⟩,
    ⟨(some 8), none, .mv (.t 1)⟩,
    ⟨(some 9), none, .mv (.t 0)⟩,
    ⟨(some 10), none, .nilc (.t 9)⟩,
    ⟨(some 11), none, .faddr (.t 10) 0⟩,
    ⟨(some 12), none, .load 2 none (.t 11)⟩,
    ⟨none, none, .mupd false [.i] false (.t 7) (.t 8) (.t 12)⟩])⟩
-- span.both [iso]
def c233 : AFn := ⟨2, [.cell 4 (some 3)], false,
  (.seq (.ins [⟨(some 2), none, .boxv 3 (.t 0)⟩,
    ⟨(some 3), none, .boxv 3 (.t 1)⟩,
    ⟨(some 4), none, .allocv [.int .i64 0, .int .i64 0, .int .i64 0]⟩])
  (.seq (.seq (.ins [⟨(some 5), none, .faddr (.t 2) 0⟩,
    ⟨(some 6), none, .load 5 none (.t 5)⟩,
    ⟨(some 7), none, .faddr (.t 3) 0⟩,
    ⟨(some 8), none, .load 6 none (.t 7)⟩,
    ⟨(some 9), none, .bin .neq (.t 6) (.t 8)⟩])
  (.cond (.t 9)
    (.seq (.ins [⟨(some 10), none, .build [.int .i64 0, .int .i64 0, .int .i64 0] []⟩,
      ⟨none, none, .store 7 3 0 (.t 4) (.t 10)⟩])
    .ret)
    .skip))
  (.seq (.ins [⟨(some 11), none, .faddr (.t 2) 0⟩,
    ⟨(some 12), none, .load 5 none (.t 11)⟩,
    ⟨(some 13), none, .faddr (.t 2) 1⟩,
    ⟨(some 14), none, .load 5 none (.t 13)⟩,
    ⟨(some 15), none, .faddr (.t 3) 1⟩,
    ⟨(some 16), none, .load 6 none (.t 15)⟩,
    ⟨(some 17), none, .max [(.t 14), (.t 16)]⟩,
    ⟨(some 18), none, .faddr (.t 2) 2⟩,
    ⟨(some 19), none, .load 5 none (.t 18)⟩,
    ⟨(some 20), none, .faddr (.t 3) 2⟩,
    ⟨(some 21), none, .load 6 none (.t 20)⟩,
    ⟨(some 22), none, .min [(.t 19), (.t 21)]⟩,
    ⟨(some 23), none, .build [.int .i64 0, .int .i64 0, .int .i64 0] [(0, 1, (.t 12)), (1, 1, (.t 17)), (2, 1, (.t 22))]⟩,
    ⟨none, none, .store 7 3 0 (.t 4) (.t 23)⟩])
  .ret)))⟩
-- (*sess.Sess).Begin [rw]
def c236 : AFn := ⟨2, [.tmp 4], false,
  (.seq (.ins [⟨(some 4), none, .mv (.c (.int .i64 0))⟩])
  (.seq (.seq (.ins [⟨(some 6), none, .mv (.t 0)⟩,
    ⟨(some 7), none, .mv (.t 1)⟩,
    ⟨(some 8), none, .call .ro false 190 [(.t 6), (.t 7)]⟩])
  (.cond (.t 8)
    (.seq (.ins [⟨(some 4), none, .mv (.c (.int .i64 6))⟩])
    .ret)
    .skip))
  (.seq (.seq (.ins [⟨(some 9), none, .mv (.t 0)⟩,
    ⟨(some 10), none, .nilc (.t 9)⟩,
    ⟨(some 11), none, .faddr (.t 10) 0⟩,
    ⟨(some 12), none, .load 2 none (.t 11)⟩,
    ⟨(some 13), none, .mv (.t 1)⟩,
    ⟨(some 14), none, .call .rw false 290 [(.t 12), (.t 13)]⟩,
    ⟨(some 5), none, .mv (.t 14)⟩])
  (.seq (.ins [⟨(some 15), none, .mv (.t 5)⟩,
    ⟨(some 16), none, .bin .neq (.t 15) (.c (.int .i64 0))⟩])
  (.cond (.t 16)
    (.seq (.ins [⟨(some 17), none, .mv (.t 5)⟩,
      ⟨(some 4), none, .mv (.t 17)⟩])
    .ret)
    .skip)))
  (.seq (.ins [⟨(some 18), none, .mv (.t 0)⟩,
    ⟨(some 19), none, .mv (.t 1)⟩,
    ⟨(some 20), none, .mv (.t 0)⟩,
    ⟨(some 21), none, .nilc (.t 20)⟩,
    ⟨(some 22), none, .faddr (.t 21) 0⟩,
    ⟨(some 23), none, .load 2 none (.t 22)⟩,
    ⟨(some 24), none, .call .ro false 26 [(.t 23)]⟩,
    ⟨(some 25), none, .call .ro false 27 [(.t 24)]⟩,
    ⟨(some 26), none, .call .rw false 93 [(.t 18), (.t 19), (.c (.int .i64 1)), (.c (.int .i64 0)), (.t 25)]⟩])
  (.seq (.ins [⟨(some 27), none, .mv (.t 0)⟩,
    ⟨(some 28), none, .nilc (.t 27)⟩,
    ⟨(some 29), none, .faddr (.t 28) 2⟩,
    ⟨(some 30), none, .load 2 none (.t 29)⟩,
    ⟨(some 31), none, .mv (.t 1)⟩,
    ⟨(some 32), none, .call .rw false 191 [(.t 30), (.t 31)]⟩])
  (.seq (.ins [⟨(some 4), none, .mv (.c (.int .i64 0))⟩])
  .ret))))))⟩
-- (*sess.Sess).Commit [rw]
def c237 : AFn := ⟨2, [.tmp 4], false,
  (.seq (.ins [⟨(some 4), none, .mv (.c (.int .i64 0))⟩])
  (.seq (.seq (.ins [⟨(some 7), none, .mv (.t 0)⟩,
    ⟨(some 8), none, .mv (.t 1)⟩,
    ⟨(some 9), none, .call .ro false 190 [(.t 7), (.t 8)]⟩,
    ⟨(some 10), none, .not (.t 9)⟩])
  (.cond (.t 10)
    (.seq (.ins [⟨(some 4), none, .mv (.c (.int .i64 5))⟩])
    .ret)
    .skip))
  (.seq (.ins [⟨(some 12), none, .mv (.t 0)⟩,
    ⟨(some 13), none, .nilc (.t 12)⟩,
    ⟨(some 14), none, .faddr (.t 13) 0⟩,
    ⟨(some 15), none, .load 2 none (.t 14)⟩,
    ⟨(some 16), none, .mv (.t 1)⟩,
    ⟨(some 17), none, .call .rw false 291 [(.t 15), (.t 16)]⟩,
    ⟨(some 11), none, .mv (.t 17)⟩,
    ⟨(some 18), none, .ext (.t 11) 0⟩,
    ⟨(some 19), none, .ext (.t 11) 1⟩,
    ⟨(some 5), none, .mv (.t 18)⟩,
    ⟨(some 6), none, .mv (.t 19)⟩])
  (.seq (.ins [⟨(some 20), none, .mv (.t 0)⟩,
    ⟨(some 21), none, .mv (.t 1)⟩,
    ⟨(some 22), none, .mv (.t 6)⟩,
    ⟨(some 23), none, .call .iso false 292 [(.t 22)]⟩,
    ⟨(some 24), none, .mv (.t 5)⟩,
    ⟨(some 25), none, .call .rw false 93 [(.t 20), (.t 21), (.c (.int .i64 0)), (.t 23), (.t 24)]⟩])
  (.seq (.ins [⟨(some 26), none, .mv (.t 6)⟩,
    ⟨(some 4), none, .mv (.t 26)⟩])
  .ret)))))⟩
-- (*sess.Sess).Abort [rw]
def c238 : AFn := ⟨2, [.tmp 4], false,
  (.seq (.ins [⟨(some 4), none, .mv (.c (.int .i64 0))⟩])
  (.seq (.seq (.ins [⟨(some 5), none, .mv (.t 0)⟩,
    ⟨(some 6), none, .mv (.t 1)⟩,
    ⟨(some 7), none, .call .ro false 190 [(.t 5), (.t 6)]⟩,
    ⟨(some 8), none, .not (.t 7)⟩])
  (.cond (.t 8)
    (.seq (.ins [⟨(some 4), none, .mv (.c (.int .i64 5))⟩])
    .ret)
    .skip))
  (.seq (.ins [⟨(some 9), none, .mv (.t 0)⟩,
    ⟨(some 10), none, .nilc (.t 9)⟩,
    ⟨(some 11), none, .faddr (.t 10) 0⟩,
    ⟨(some 12), none, .load 2 none (.t 11)⟩,
    ⟨(some 13), none, .mv (.t 1)⟩,
    ⟨(some 14), none, .call .rw false 92 [(.t 12), (.t 13)]⟩])
  (.seq (.ins [⟨(some 15), none, .mv (.t 0)⟩,
    ⟨(some 16), none, .mv (.t 1)⟩,
    ⟨(some 17), none, .call .rw false 93 [(.t 15), (.t 16), (.c (.int .i64 0)), (.c (.int .i64 1)), (.c (.int .u64 0))]⟩])
  (.seq (.ins [⟨(some 4), none, .mv (.c (.int .i64 0))⟩])
  .ret)))))⟩
-- (*txn.Engine).Begin [rw]
def c290 : AFn := ⟨2, [.tmp 4], false,
  (.seq (.ins [⟨(some 4), none, .mv (.c (.int .i64 0))⟩])
  (.seq (.seq (.ins [⟨(some 8), none, .mv (.t 0)⟩,
    ⟨(some 9), none, .nilc (.t 8)⟩,
    ⟨(some 10), none, .faddr (.t 9) 4⟩,
    ⟨(some 11), none, .load 2 none (.t 10)⟩,
    ⟨(some 12), none, .mv (.t 1)⟩,
    ⟨(some 13), none, .lookup false [.i] (.agg [.int .u64 0, .sl 3 [] (some []), .sl 3 [] (some [])]) (.t 11) (.t 12) true⟩,
    ⟨(some 7), none, .mv (.t 13)⟩,
    ⟨(some 14), none, .ext (.t 7) 0⟩,
    ⟨(some 15), none, .ext (.t 7) 1⟩,
    ⟨(some 5), none, .allocv [.int .u64 0, .sl 3 [] (some []), .sl 3 [] (some [])]⟩,
    ⟨none, none, .store 8 3 0 (.t 5) (.t 14)⟩,
    ⟨(some 6), none, .mv (.t 15)⟩])
  (.seq (.ins [⟨(some 16), none, .mv (.t 6)⟩])
  (.cond (.t 16)
    (.seq (.ins [⟨(some 4), none, .mv (.c (.int .i64 6))⟩])
    .ret)
    .skip)))
  (.seq (.seq (.ins [⟨(some 17), none, .mv (.t 0)⟩,
    ⟨(some 18), none, .nilc (.t 17)⟩,
    ⟨(some 19), none, .faddr (.t 18) 4⟩,
    ⟨(some 20), none, .load 2 none (.t 19)⟩,
    ⟨(some 21), none, .lenm (.t 20)⟩,
    ⟨(some 22), none, .mv (.t 0)⟩,
    ⟨(some 23), none, .nilc (.t 22)⟩,
    ⟨(some 24), none, .faddr (.t 23) 1⟩,
    ⟨(some 25), none, .load 2 none (.t 24)⟩,
    ⟨(some 26), none, .bin .geq (.t 21) (.t 25)⟩])
  (.cond (.t 26)
    (.seq (.ins [⟨(some 4), none, .mv (.c (.int .i64 4))⟩])
    .ret)
    .skip))
  (.seq (.ins [⟨(some 27), none, .mv (.t 0)⟩,
    ⟨(some 28), none, .nilc (.t 27)⟩,
    ⟨(some 29), none, .faddr (.t 28) 4⟩,
    ⟨(some 30), none, .load 2 none (.t 29)⟩,
    ⟨(some 31), none, .mv (.t 1)⟩,
    ⟨(some 32), none, .mv (.t 0)⟩,
    ⟨(some 33), none, .nilc (.t 32)⟩,
    ⟨(some 34), none, .faddr (.t 33) 0⟩,
    ⟨(some 35), none, .load 2 none (.t 34)⟩,
    ⟨(some 36), none, .call .ro false 27 [(.t 35)]⟩,
    ⟨(some 37), none, .build [.int .u64 0, .sl 3 [] (some []), .sl 3 [] (some [])] [(0, 1, (.t 36))]⟩,
    ⟨none, none, .mupd false [.i] false (.t 30) (.t 31) (.t 37)⟩])
  (.seq (.ins [⟨(some 4), none, .mv (.c (.int .i64 0))⟩])
  .ret)))))⟩
-- (*txn.Engine).Commit [rw]
def c291 : AFn := ⟨2, [.tmp 4, .tmp 5], false,
  (.seq (.ins [⟨(some 4), none, .mv (.c (.int .u64 0))⟩,
    ⟨(some 5), none, .mv (.c (.int .i64 0))⟩])
  (.seq (.ins [⟨(some 10), none, .mv (.t 0)⟩,
    ⟨(some 11), none, .nilc (.t 10)⟩,
    ⟨(some 12), none, .faddr (.t 11) 4⟩,
    ⟨(some 13), none, .load 2 none (.t 12)⟩,
    ⟨(some 14), none, .mv (.t 1)⟩,
    ⟨(some 15), none, .lookup false [.i] (.agg [.int .u64 0, .sl 3 [] (some []), .sl 3 [] (some [])]) (.t 13) (.t 14) true⟩,
    ⟨(some 9), none, .mv (.t 15)⟩,
    ⟨(some 16), none, .ext (.t 9) 0⟩,
    ⟨(some 17), none, .ext (.t 9) 1⟩,
    ⟨(some 6), none, .allocv [.int .u64 0, .sl 3 [] (some []), .sl 3 [] (some [])]⟩,
    ⟨none, none, .store 9 3 0 (.t 6) (.t 16)⟩,
    ⟨(some 7), none, .mv (.t 17)⟩])
  (.seq (.seq (.ins [⟨(some 18), none, .mv (.t 7)⟩,
    ⟨(some 19), none, .not (.t 18)⟩])
  (.cond (.t 19)
    (.seq (.ins [⟨(some 4), none, .mv (.c (.int .u64 0))⟩,
      ⟨(some 5), none, .mv (.c (.int .i64 5))⟩])
    .ret)
    .skip))
  (.seq (.ins [⟨(some 20), none, .mv (.t 0)⟩,
    ⟨(some 21), none, .nilc (.t 20)⟩,
    ⟨(some 22), none, .faddr (.t 21) 4⟩,
    ⟨(some 23), none, .load 2 none (.t 22)⟩,
    ⟨(some 24), none, .mv (.t 1)⟩,
    ⟨none, none, .del false [.i] (.t 23) (.t 24)⟩])
  (.seq (.ins [⟨(some 25), none, .mv (.t 0)⟩,
    ⟨(some 26), none, .nilc (.t 25)⟩,
    ⟨(some 27), none, .faddr (.t 26) 0⟩,
    ⟨(some 28), none, .load 2 none (.t 27)⟩,
    ⟨(some 29), none, .mkfn 220 [(.t 28)] []⟩,
    ⟨(some 8), none, .mv (.t 29)⟩])
  (.seq (.block 0 (.seq (.ins [⟨(some 31), none, .faddr (.t 6) 2⟩,
      ⟨(some 32), none, .load 9 none (.t 31)⟩,
      ⟨(some 33), none, .len (.t 32)⟩,
      ⟨(some 34), none, .bin .eql (.t 33) (.c (.int .i64 0))⟩,
      ⟨(some 30), none, .mv (.t 34)⟩])
    (.cond (.t 30)
      (.seq (.ins [⟨(some 35), none, .faddr (.t 6) 0⟩,
        ⟨(some 36), none, .load 9 none (.t 35)⟩,
        ⟨(some 4), none, .mv (.t 36)⟩,
        ⟨(some 5), none, .mv (.c (.int .i64 0))⟩])
      .ret)
      (.seq (.ins [⟨(some 38), none, .mv (.t 0)⟩,
        ⟨(some 39), none, .nilc (.t 38)⟩,
        ⟨(some 40), none, .faddr (.t 39) 0⟩,
        ⟨(some 41), none, .load 2 none (.t 40)⟩,
        ⟨(some 42), none, .faddr (.t 6) 1⟩,
        ⟨(some 43), none, .load 9 none (.t 42)⟩,
        ⟨(some 44), none, .faddr (.t 6) 0⟩,
        ⟨(some 45), none, .load 9 none (.t 44)⟩,
        ⟨(some 46), none, .call .ro true 331 [(.t 41), (.t 43), (.t 45)]⟩,
        ⟨(some 47), none, .not (.t 46)⟩,
        ⟨(some 37), none, .mv (.t 47)⟩])
      (.cond (.t 37)
        (.seq (.ins [⟨(some 4), none, .mv (.c (.int .u64 0))⟩,
          ⟨(some 5), none, .mv (.c (.int .i64 7))⟩])
        .ret)
        .skip)))))
  (.seq (.ins [⟨(some 48), none, .mv (.t 8)⟩,
    ⟨(some 49), none, .faddr (.t 6) 2⟩,
    ⟨(some 50), none, .load 9 none (.t 49)⟩,
    ⟨(some 51), none, .callv .rw true (.t 48) [(.t 50)]⟩,
    ⟨(some 52), none, .ext (.t 51) 0⟩,
    ⟨(some 53), none, .ext (.t 51) 1⟩,
    ⟨(some 4), none, .mv (.t 52)⟩,
    ⟨(some 5), none, .mv (.t 53)⟩])
  .ret)))))))⟩
-- sess.why [iso]
def c292 : AFn := ⟨1, [.tmp 2], false,
  (.seq (.ins [⟨(some 2), none, .mv (.c (.int .i64 0))⟩])
  (.seq (.seq (.ins [⟨(some 3), none, .mv (.t 0)⟩])
  (.block 0 (.seq (.ins [⟨(some 5), none, .bin .eql (.t 3) (.c (.int .i64 7))⟩,
      ⟨(some 4), none, .mv (.t 5)⟩])
    (.cond (.t 4)
      (.seq (.ins [⟨(some 2), none, .mv (.c (.int .i64 2))⟩])
      .ret)
      (.seq (.ins [⟨(some 7), none, .bin .eql (.t 3) (.c (.int .i64 4))⟩,
        ⟨(some 6), none, .mv (.t 7)⟩])
      (.cond (.t 6)
        (.seq (.ins [⟨(some 2), none, .mv (.c (.int .i64 4))⟩])
        .ret)
        (.seq (.ins [⟨(some 9), none, .bin .eql (.t 3) (.c (.int .i64 8))⟩,
          ⟨(some 8), none, .mv (.t 9)⟩])
        (.cond (.t 8)
          (.seq (.ins [⟨(some 2), none, .mv (.c (.int .i64 5))⟩])
          .ret)
          .skip))))))))
  (.seq (.ins [⟨(some 2), none, .mv (.c (.int .i64 0))⟩])
  .ret)))⟩
end Go.Proofs.Bb.Oo
