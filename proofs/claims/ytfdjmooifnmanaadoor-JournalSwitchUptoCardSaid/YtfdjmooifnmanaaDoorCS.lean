/- Symbolic code. -/
import Derived.Test.YtfdjmooifnmanaaDoorK
namespace Go.V
open Go.Proofs
/- strings.Repeat; loops: [[7, 8, 9]]; slots [(s, 0), (count, 1), (s, 2), (count, 3), (hi, 5), (lo, 6), (n, 7), (chunkMax, 8), (b, 9), (chunk, 10)] -/
def s_strings_Repeat : SCode :=
 (.seq (.reg false [] (.w 0 ⟨(some 4), none, .mv (.c (.str []))⟩
  .done) (some [0, 1]))
 (.seq (.seq (.reg false [] (.w 0 ⟨(some 11), none, .mv (.t 1)⟩
  .done) (some [0, 1, 11]))
 (.block 0 (.seq (.reg false [] (.w 0 ⟨(some 13), none, .bin .eql .i (.t 11) (.c (.int .i64 0))⟩
  (.w 1 ⟨(some 12), none, .mv (.t 13)⟩
  .done)) (some [0, 1, 11, 12]))
 (.cond (.t 12) (.seq (.reg false [] (.w 0 ⟨(some 4), none, .mv (.c (.str []))⟩
  .done) (some [4]))
 .ret)
 (.seq (.reg false [] (.w 0 ⟨(some 15), none, .bin .eql .i (.t 11) (.c (.int .i64 1))⟩
  (.w 1 ⟨(some 14), none, .mv (.t 15)⟩
  .done)) (some [0, 1, 14]))
 (.cond (.t 14) (.seq (.reg false [] (.w 0 ⟨(some 16), none, .mv (.t 0)⟩
  (.w 1 ⟨(some 4), none, .mv (.t 16)⟩
  .done)) (some [4]))
 .ret)
 .skip))))))
 (.seq (.seq (.reg false [] (.w 0 ⟨(some 17), none, .mv (.t 1)⟩
  (.w 1 ⟨(some 18), none, .bin .lss .i (.t 17) (.c (.int .i64 0))⟩
  .done)) (some [0, 1, 18]))
 (.cond (.t 18) (.reg false [] (.w 0 ⟨(some 19), none, .mki 9 (.c (.str [115, 116, 114, 105, 110, 103, 115, 58, 32, 110, 101, 103, 97, 116, 105, 118, 101, 32, 82, 101, 112, 101, 97, 116, 32, 99, 111, 117, 110, 116]))⟩
  (.l 1 ⟨none, none, .pan (.t 19)⟩ []
  .done .stop)) (some [0, 1]))
 .skip))
 (.seq (.reg false [] (.w 0 ⟨(some 21), none, .mv (.t 0)⟩
  (.w 1 ⟨(some 22), none, .len false (.t 21)⟩
  (.w 2 ⟨(some 23), none, .conv .u64 (.t 22)⟩
  (.w 3 ⟨(some 24), none, .mv (.t 1)⟩
  (.w 4 ⟨(some 25), none, .conv .u64 (.t 24)⟩
  (.l 5 ⟨(some 26), none, .call 45 [(.t 23), (.t 25)]⟩ []
  (.w 6 ⟨(some 20), none, .mv (.t 26)⟩
  (.w 7 ⟨(some 27), none, .ext (.t 20) 0⟩
  (.w 8 ⟨(some 28), none, .ext (.t 20) 1⟩
  (.w 9 ⟨(some 5), none, .mv (.t 27)⟩
  (.w 10 ⟨(some 6), none, .mv (.t 28)⟩
  .done))))) .stop)))))) (some [0, 5, 6]))
 (.seq (.seq (.reg false [] (.w 0 ⟨(some 29), none, .mv (.t 5)⟩
  (.w 1 ⟨(some 30), none, .bin .gtr .i (.t 29) (.c (.int .u64 0))⟩
  (.w 2 ⟨(some 31), none, .mv (.t 30)⟩
  (.w 3 ⟨(some 32), (some (31, false)), .mv (.t 6)⟩
  (.w 4 ⟨(some 33), (some (31, false)), .bin .gtr .i (.t 32) (.c (.int .u64 9223372036854775807))⟩
  (.w 5 ⟨(some 34), none, .pick (.t 31) (.c (.bool true)) (.t 33)⟩
  .done)))))) (some [0, 6, 34]))
 (.cond (.t 34) (.reg false [] (.w 0 ⟨(some 35), none, .mki 9 (.c (.str [115, 116, 114, 105, 110, 103, 115, 58, 32, 82, 101, 112, 101, 97, 116, 32, 111, 117, 116, 112, 117, 116, 32, 108, 101, 110, 103, 116, 104, 32, 111, 118, 101, 114, 102, 108, 111, 119]))⟩
  (.l 1 ⟨none, none, .pan (.t 35)⟩ []
  .done .stop)) (some [0, 6]))
 .skip))
 (.seq (.reg false [] (.w 0 ⟨(some 36), none, .mv (.t 6)⟩
  (.w 1 ⟨(some 37), none, .conv .i64 (.t 36)⟩
  (.w 2 ⟨(some 7), none, .mv (.t 37)⟩
  .done))) (some [0, 7]))
 (.seq (.seq (.reg false [] (.w 0 ⟨(some 38), none, .mv (.t 0)⟩
  (.w 1 ⟨(some 39), none, .len false (.t 38)⟩
  (.w 2 ⟨(some 40), none, .bin .eql .i (.t 39) (.c (.int .i64 0))⟩
  .done))) (some [0, 7, 40]))
 (.cond (.t 40) (.seq (.reg false [] (.w 0 ⟨(some 4), none, .mv (.c (.str []))⟩
  .done) (some [4]))
 .ret)
 .skip))
 (.seq (.seq (.reg false [] (.w 0 ⟨(some 41), none, .mv (.t 0)⟩
  (.w 1 ⟨(some 42), none, .idx (.t 41) (.c (.int .i64 0))⟩
  .done)) (some [0, 7, 42]))
 (.block 1 (.seq (.seq (.reg false [] (.w 0 ⟨(some 44), none, .bin .eql .i (.t 42) (.c (.int .u8 32))⟩
  (.w 1 ⟨(some 43), none, .mv (.t 44)⟩
  .done)) (some [0, 7, 42, 43]))
 (.cond (.t 43) .skip
 (.seq (.reg false [] (.w 0 ⟨(some 45), none, .bin .eql .i (.t 42) (.c (.int .u8 45))⟩
  (.w 1 ⟨(some 43), none, .mv (.t 45)⟩
  .done)) (some [0, 7, 42, 43]))
 (.cond (.t 43) .skip
 (.seq (.reg false [] (.w 0 ⟨(some 46), none, .bin .eql .i (.t 42) (.c (.int .u8 48))⟩
  (.w 1 ⟨(some 43), none, .mv (.t 46)⟩
  .done)) (some [0, 7, 42, 43]))
 (.cond (.t 43) .skip
 (.seq (.reg false [] (.w 0 ⟨(some 47), none, .bin .eql .i (.t 42) (.c (.int .u8 61))⟩
  (.w 1 ⟨(some 43), none, .mv (.t 47)⟩
  .done)) (some [0, 7, 42, 43]))
 (.cond (.t 43) .skip
 (.reg false [] (.w 0 ⟨(some 48), none, .bin .eql .i (.t 42) (.c (.int .u8 9))⟩
  (.w 1 ⟨(some 43), none, .mv (.t 48)⟩
  .done)) (some [0, 7, 43]))))))))))
 (.cond (.t 43) (.block 2 (.seq (.reg false [] (.w 0 ⟨(some 50), none, .mv (.t 7)⟩
  (.w 1 ⟨(some 51), none, .bin .leq .i (.t 50) (.c (.int .i64 128))⟩
  (.w 2 ⟨(some 52), none, .mv (.t 51)⟩
  (.w 3 ⟨(some 53), (some (52, true)), .mv (.t 0)⟩
  (.l 4 ⟨(some 54), (some (52, true)), .call 36 [(.c (.str [32, 32, 32, 32, 32, 32, 32, 32, 32, 32, 32, 32, 32, 32, 32, 32, 32, 32, 32, 32, 32, 32, 32, 32, 32, 32, 32, 32, 32, 32, 32, 32, 32, 32, 32, 32, 32, 32, 32, 32, 32, 32, 32, 32, 32, 32, 32, 32, 32, 32, 32, 32, 32, 32, 32, 32, 32, 32, 32, 32, 32, 32, 32, 32, 32, 32, 32, 32, 32, 32, 32, 32, 32, 32, 32, 32, 32, 32, 32, 32, 32, 32, 32, 32, 32, 32, 32, 32, 32, 32, 32, 32, 32, 32, 32, 32, 32, 32, 32, 32, 32, 32, 32, 32, 32, 32, 32, 32, 32, 32, 32, 32, 32, 32, 32, 32, 32, 32, 32, 32, 32, 32, 32, 32, 32, 32, 32, 32])), (.t 53)]⟩ []
  (.w 5 ⟨(some 55), none, .pick (.t 52) (.t 54) (.c (.bool false))⟩
  (.w 6 ⟨(some 49), none, .mv (.t 55)⟩
  .done)) .stop))))) (some [0, 7, 49]))
 (.cond (.t 49) (.seq (.reg false [] (.w 0 ⟨(some 56), none, .mv (.t 7)⟩
  (.w 1 ⟨(some 57), none, .sub (.c (.str [32, 32, 32, 32, 32, 32, 32, 32, 32, 32, 32, 32, 32, 32, 32, 32, 32, 32, 32, 32, 32, 32, 32, 32, 32, 32, 32, 32, 32, 32, 32, 32, 32, 32, 32, 32, 32, 32, 32, 32, 32, 32, 32, 32, 32, 32, 32, 32, 32, 32, 32, 32, 32, 32, 32, 32, 32, 32, 32, 32, 32, 32, 32, 32, 32, 32, 32, 32, 32, 32, 32, 32, 32, 32, 32, 32, 32, 32, 32, 32, 32, 32, 32, 32, 32, 32, 32, 32, 32, 32, 32, 32, 32, 32, 32, 32, 32, 32, 32, 32, 32, 32, 32, 32, 32, 32, 32, 32, 32, 32, 32, 32, 32, 32, 32, 32, 32, 32, 32, 32, 32, 32, 32, 32, 32, 32, 32, 32])) none (some (.t 56))⟩
  (.w 2 ⟨(some 4), none, .mv (.t 57)⟩
  .done))) (some [4]))
 .ret)
 (.seq (.reg false [] (.w 0 ⟨(some 59), none, .mv (.t 7)⟩
  (.w 1 ⟨(some 60), none, .bin .leq .i (.t 59) (.c (.int .i64 128))⟩
  (.w 2 ⟨(some 61), none, .mv (.t 60)⟩
  (.w 3 ⟨(some 62), (some (61, true)), .mv (.t 0)⟩
  (.l 4 ⟨(some 63), (some (61, true)), .call 36 [(.c (.str [45, 45, 45, 45, 45, 45, 45, 45, 45, 45, 45, 45, 45, 45, 45, 45, 45, 45, 45, 45, 45, 45, 45, 45, 45, 45, 45, 45, 45, 45, 45, 45, 45, 45, 45, 45, 45, 45, 45, 45, 45, 45, 45, 45, 45, 45, 45, 45, 45, 45, 45, 45, 45, 45, 45, 45, 45, 45, 45, 45, 45, 45, 45, 45, 45, 45, 45, 45, 45, 45, 45, 45, 45, 45, 45, 45, 45, 45, 45, 45, 45, 45, 45, 45, 45, 45, 45, 45, 45, 45, 45, 45, 45, 45, 45, 45, 45, 45, 45, 45, 45, 45, 45, 45, 45, 45, 45, 45, 45, 45, 45, 45, 45, 45, 45, 45, 45, 45, 45, 45, 45, 45, 45, 45, 45, 45, 45, 45])), (.t 62)]⟩ []
  (.w 5 ⟨(some 64), none, .pick (.t 61) (.t 63) (.c (.bool false))⟩
  (.w 6 ⟨(some 58), none, .mv (.t 64)⟩
  .done)) .stop))))) (some [0, 7, 58]))
 (.cond (.t 58) (.seq (.reg false [] (.w 0 ⟨(some 65), none, .mv (.t 7)⟩
  (.w 1 ⟨(some 66), none, .sub (.c (.str [45, 45, 45, 45, 45, 45, 45, 45, 45, 45, 45, 45, 45, 45, 45, 45, 45, 45, 45, 45, 45, 45, 45, 45, 45, 45, 45, 45, 45, 45, 45, 45, 45, 45, 45, 45, 45, 45, 45, 45, 45, 45, 45, 45, 45, 45, 45, 45, 45, 45, 45, 45, 45, 45, 45, 45, 45, 45, 45, 45, 45, 45, 45, 45, 45, 45, 45, 45, 45, 45, 45, 45, 45, 45, 45, 45, 45, 45, 45, 45, 45, 45, 45, 45, 45, 45, 45, 45, 45, 45, 45, 45, 45, 45, 45, 45, 45, 45, 45, 45, 45, 45, 45, 45, 45, 45, 45, 45, 45, 45, 45, 45, 45, 45, 45, 45, 45, 45, 45, 45, 45, 45, 45, 45, 45, 45, 45, 45])) none (some (.t 65))⟩
  (.w 2 ⟨(some 4), none, .mv (.t 66)⟩
  .done))) (some [4]))
 .ret)
 (.seq (.reg false [] (.w 0 ⟨(some 68), none, .mv (.t 7)⟩
  (.w 1 ⟨(some 69), none, .bin .leq .i (.t 68) (.c (.int .i64 64))⟩
  (.w 2 ⟨(some 70), none, .mv (.t 69)⟩
  (.w 3 ⟨(some 71), (some (70, true)), .mv (.t 0)⟩
  (.l 4 ⟨(some 72), (some (70, true)), .call 36 [(.c (.str [48, 48, 48, 48, 48, 48, 48, 48, 48, 48, 48, 48, 48, 48, 48, 48, 48, 48, 48, 48, 48, 48, 48, 48, 48, 48, 48, 48, 48, 48, 48, 48, 48, 48, 48, 48, 48, 48, 48, 48, 48, 48, 48, 48, 48, 48, 48, 48, 48, 48, 48, 48, 48, 48, 48, 48, 48, 48, 48, 48, 48, 48, 48, 48])), (.t 71)]⟩ []
  (.w 5 ⟨(some 73), none, .pick (.t 70) (.t 72) (.c (.bool false))⟩
  (.w 6 ⟨(some 67), none, .mv (.t 73)⟩
  .done)) .stop))))) (some [0, 7, 67]))
 (.cond (.t 67) (.seq (.reg false [] (.w 0 ⟨(some 74), none, .mv (.t 7)⟩
  (.w 1 ⟨(some 75), none, .sub (.c (.str [48, 48, 48, 48, 48, 48, 48, 48, 48, 48, 48, 48, 48, 48, 48, 48, 48, 48, 48, 48, 48, 48, 48, 48, 48, 48, 48, 48, 48, 48, 48, 48, 48, 48, 48, 48, 48, 48, 48, 48, 48, 48, 48, 48, 48, 48, 48, 48, 48, 48, 48, 48, 48, 48, 48, 48, 48, 48, 48, 48, 48, 48, 48, 48])) none (some (.t 74))⟩
  (.w 2 ⟨(some 4), none, .mv (.t 75)⟩
  .done))) (some [4]))
 .ret)
 (.seq (.reg false [] (.w 0 ⟨(some 77), none, .mv (.t 7)⟩
  (.w 1 ⟨(some 78), none, .bin .leq .i (.t 77) (.c (.int .i64 128))⟩
  (.w 2 ⟨(some 79), none, .mv (.t 78)⟩
  (.w 3 ⟨(some 80), (some (79, true)), .mv (.t 0)⟩
  (.l 4 ⟨(some 81), (some (79, true)), .call 36 [(.c (.str [61, 61, 61, 61, 61, 61, 61, 61, 61, 61, 61, 61, 61, 61, 61, 61, 61, 61, 61, 61, 61, 61, 61, 61, 61, 61, 61, 61, 61, 61, 61, 61, 61, 61, 61, 61, 61, 61, 61, 61, 61, 61, 61, 61, 61, 61, 61, 61, 61, 61, 61, 61, 61, 61, 61, 61, 61, 61, 61, 61, 61, 61, 61, 61, 61, 61, 61, 61, 61, 61, 61, 61, 61, 61, 61, 61, 61, 61, 61, 61, 61, 61, 61, 61, 61, 61, 61, 61, 61, 61, 61, 61, 61, 61, 61, 61, 61, 61, 61, 61, 61, 61, 61, 61, 61, 61, 61, 61, 61, 61, 61, 61, 61, 61, 61, 61, 61, 61, 61, 61, 61, 61, 61, 61, 61, 61, 61, 61])), (.t 80)]⟩ []
  (.w 5 ⟨(some 82), none, .pick (.t 79) (.t 81) (.c (.bool false))⟩
  (.w 6 ⟨(some 76), none, .mv (.t 82)⟩
  .done)) .stop))))) (some [0, 7, 76]))
 (.cond (.t 76) (.seq (.reg false [] (.w 0 ⟨(some 83), none, .mv (.t 7)⟩
  (.w 1 ⟨(some 84), none, .sub (.c (.str [61, 61, 61, 61, 61, 61, 61, 61, 61, 61, 61, 61, 61, 61, 61, 61, 61, 61, 61, 61, 61, 61, 61, 61, 61, 61, 61, 61, 61, 61, 61, 61, 61, 61, 61, 61, 61, 61, 61, 61, 61, 61, 61, 61, 61, 61, 61, 61, 61, 61, 61, 61, 61, 61, 61, 61, 61, 61, 61, 61, 61, 61, 61, 61, 61, 61, 61, 61, 61, 61, 61, 61, 61, 61, 61, 61, 61, 61, 61, 61, 61, 61, 61, 61, 61, 61, 61, 61, 61, 61, 61, 61, 61, 61, 61, 61, 61, 61, 61, 61, 61, 61, 61, 61, 61, 61, 61, 61, 61, 61, 61, 61, 61, 61, 61, 61, 61, 61, 61, 61, 61, 61, 61, 61, 61, 61, 61, 61])) none (some (.t 83))⟩
  (.w 2 ⟨(some 4), none, .mv (.t 84)⟩
  .done))) (some [4]))
 .ret)
 (.seq (.reg false [] (.w 0 ⟨(some 86), none, .mv (.t 7)⟩
  (.w 1 ⟨(some 87), none, .bin .leq .i (.t 86) (.c (.int .i64 64))⟩
  (.w 2 ⟨(some 88), none, .mv (.t 87)⟩
  (.w 3 ⟨(some 89), (some (88, true)), .mv (.t 0)⟩
  (.l 4 ⟨(some 90), (some (88, true)), .call 36 [(.c (.str [9, 9, 9, 9, 9, 9, 9, 9, 9, 9, 9, 9, 9, 9, 9, 9, 9, 9, 9, 9, 9, 9, 9, 9, 9, 9, 9, 9, 9, 9, 9, 9, 9, 9, 9, 9, 9, 9, 9, 9, 9, 9, 9, 9, 9, 9, 9, 9, 9, 9, 9, 9, 9, 9, 9, 9, 9, 9, 9, 9, 9, 9, 9, 9])), (.t 89)]⟩ []
  (.w 5 ⟨(some 91), none, .pick (.t 88) (.t 90) (.c (.bool false))⟩
  (.w 6 ⟨(some 85), none, .mv (.t 91)⟩
  .done)) .stop))))) (some [0, 7, 85]))
 (.cond (.t 85) (.seq (.reg false [] (.w 0 ⟨(some 92), none, .mv (.t 7)⟩
  (.w 1 ⟨(some 93), none, .sub (.c (.str [9, 9, 9, 9, 9, 9, 9, 9, 9, 9, 9, 9, 9, 9, 9, 9, 9, 9, 9, 9, 9, 9, 9, 9, 9, 9, 9, 9, 9, 9, 9, 9, 9, 9, 9, 9, 9, 9, 9, 9, 9, 9, 9, 9, 9, 9, 9, 9, 9, 9, 9, 9, 9, 9, 9, 9, 9, 9, 9, 9, 9, 9, 9, 9])) none (some (.t 92))⟩
  (.w 2 ⟨(some 4), none, .mv (.t 93)⟩
  .done))) (some [4]))
 .ret)
 .skip)))))))))))
 .skip))))
 (.seq (.reg false [] (.w 0 ⟨(some 94), none, .mv (.t 7)⟩
  (.w 1 ⟨(some 8), none, .mv (.t 94)⟩
  .done)) (some [0, 7, 8]))
 (.seq (.seq (.reg false [] (.w 0 ⟨(some 95), none, .mv (.t 7)⟩
  (.w 1 ⟨(some 96), none, .bin .gtr .i (.t 95) (.c (.int .i64 8192))⟩
  .done)) (some [0, 7, 8, 96]))
 (.cond (.t 96) (.seq (.reg false [] (.w 0 ⟨(some 97), none, .mv (.t 0)⟩
  (.w 1 ⟨(some 98), none, .len false (.t 97)⟩
  (.w 2 ⟨(some 99), none, .bin .quo .i (.c (.int .i64 8192)) (.t 98)⟩
  (.w 3 ⟨(some 100), none, .mv (.t 0)⟩
  (.w 4 ⟨(some 101), none, .len false (.t 100)⟩
  (.w 5 ⟨(some 102), none, .bin .mul .i (.t 99) (.t 101)⟩
  (.w 6 ⟨(some 8), none, .mv (.t 102)⟩
  .done))))))) (some [0, 7, 8]))
 (.seq (.reg false [] (.w 0 ⟨(some 103), none, .mv (.t 8)⟩
  (.w 1 ⟨(some 104), none, .bin .eql .i (.t 103) (.c (.int .i64 0))⟩
  .done)) (some [0, 7, 8, 104]))
 (.cond (.t 104) (.reg false [] (.w 0 ⟨(some 105), none, .mv (.t 0)⟩
  (.w 1 ⟨(some 106), none, .len false (.t 105)⟩
  (.w 2 ⟨(some 8), none, .mv (.t 106)⟩
  .done))) (some [0, 7, 8]))
 .skip)))
 .skip))
 (.seq (.reg false [] (.l 0 ⟨(some 9), none, .alloct 80 [.nilp, .nils]⟩ []
  .done .stop) (some [0, 7, 8, 9]))
 (.seq (.reg false [] (.w 0 ⟨(some 107), none, .mv (.t 7)⟩
  (.l 1 ⟨(some 108), none, .call 46 [(.t 9), (.t 107)]⟩ []
  .done .stop)) (some [0, 7, 8, 9]))
 (.seq (.reg false [] (.w 0 ⟨(some 109), none, .mv (.t 0)⟩
  (.l 1 ⟨(some 110), none, .call 38 [(.t 9), (.t 109)]⟩ []
  .done .stop)) (some [7, 8, 9]))
 (.seq (.block 3 (.loop (.seq (.seq (.reg false [] (.l 0 ⟨(some 111), none, .call 47 [(.t 9)]⟩ []
  (.w 1 ⟨(some 112), none, .mv (.t 7)⟩
  (.w 2 ⟨(some 113), none, .bin .lss .i (.t 111) (.t 112)⟩
  .done)) .stop) (some [7, 8, 9, 113]))
 (.cond (.t 113) .skip
 (.exit 3)))
 (.block 4 (.seq (.reg false [] (.w 0 ⟨(some 114), none, .mv (.t 7)⟩
  (.l 1 ⟨(some 115), none, .call 47 [(.t 9)]⟩ []
  (.w 2 ⟨(some 116), none, .bin .sub .i (.t 114) (.t 115)⟩
  (.l 3 ⟨(some 117), none, .call 47 [(.t 9)]⟩ []
  (.w 4 ⟨(some 118), none, .mv (.t 8)⟩
  (.w 5 ⟨(some 119), none, .mm false [(.t 116), (.t 117), (.t 118)]⟩
  (.w 6 ⟨(some 10), none, .mv (.t 119)⟩
  .done))) .stop)) .stop)) (some [7, 8, 9, 10]))
 (.reg false [] (.l 0 ⟨(some 120), none, .call 39 [(.t 9)]⟩ []
  (.w 1 ⟨(some 121), none, .mv (.t 10)⟩
  (.w 2 ⟨(some 122), none, .sub (.t 120) none (some (.t 121))⟩
  (.l 3 ⟨(some 123), none, .call 38 [(.t 9), (.t 122)]⟩ []
  .done .stop))) .stop) (some [7, 8, 9])))))))
 (.seq (.reg false [] (.l 0 ⟨(some 124), none, .call 39 [(.t 9)]⟩ []
  (.w 1 ⟨(some 4), none, .mv (.t 124)⟩
  .done) .stop) (some [4]))
 .ret)))))))))))))))
def r_strings_Repeat : List RS := [.t 4]
theorem chk_strings_Repeat : (chkC prog (max Tryd.f30.ntmps 2) s_strings_Repeat (Tryd.f30.body.getD .skip) && chkRS prog r_strings_Repeat Tryd.f30.results.toList) = true := by kernel_rfl
theorem mk_strings_Repeat {G : Glob} {args : List SV} {H : List SO} {K Kp : SV → List SO → Prop} (hl : args.length = 2) (h : VFun prog G 125 s_strings_Repeat r_strings_Repeat args H K Kp) : Con prog G 30 args H K Kp := by
  subst_vars
  exact con_of_vc (fn := Tryd.f30) (sc := s_strings_Repeat) (rs := r_strings_Repeat) rfl Tryd.func30 rfl (by rw [hl]; exact chk_strings_Repeat) (by rw [hl]; exact h)

/- strings.HasPrefix; loops: []; slots [(s, 0), (prefix, 1), (s, 2), (prefix, 3)] -/
def s_strings_HasPrefix : SCode :=
 (.seq (.reg false [] (.w 0 ⟨(some 4), none, .mv (.c (.bool false))⟩
  .done) (some [0, 1]))
 (.seq (.reg false [] (.w 0 ⟨(some 5), none, .mv (.t 0)⟩
  (.w 1 ⟨(some 6), none, .mv (.t 1)⟩
  (.l 2 ⟨(some 7), none, .call 53 [(.t 5), (.t 6)]⟩ []
  (.w 3 ⟨(some 4), none, .mv (.t 7)⟩
  .done) .stop))) (some [4]))
 .ret))
def r_strings_HasPrefix : List RS := [.t 4]
theorem chk_strings_HasPrefix : (chkC prog (max Tryd.f36.ntmps 2) s_strings_HasPrefix (Tryd.f36.body.getD .skip) && chkRS prog r_strings_HasPrefix Tryd.f36.results.toList) = true := by kernel_rfl
theorem mk_strings_HasPrefix {G : Glob} {args : List SV} {H : List SO} {K Kp : SV → List SO → Prop} (hl : args.length = 2) (h : VFun prog G 8 s_strings_HasPrefix r_strings_HasPrefix args H K Kp) : Con prog G 36 args H K Kp := by
  subst_vars
  exact con_of_vc (fn := Tryd.f36) (sc := s_strings_HasPrefix) (rs := r_strings_HasPrefix) rfl Tryd.func36 rfl (by rw [hl]; exact chk_strings_HasPrefix) (by rw [hl]; exact h)

/- (*strings.Builder).WriteString; loops: []; slots [(b, 0), (s, 1), (b, 2), (s, 3)] -/
def s_strings_Builder_WriteString : SCode :=
 (.seq (.reg false [] (.w 0 ⟨(some 4), none, .mv (.c (.int .i64 0))⟩
  (.w 1 ⟨(some 5), none, .mv (.c .nili)⟩
  .done)) (some [0, 1]))
 (.seq (.reg false [] (.w 0 ⟨(some 6), none, .mv (.t 0)⟩
  (.l 1 ⟨(some 7), none, .call 54 [(.t 6)]⟩ []
  .done .stop)) (some [0, 1]))
 (.seq (.reg false [] (.w 0 ⟨(some 8), none, .mv (.t 0)⟩
  (.w 1 ⟨(some 9), none, .mv (.t 0)⟩
  (.w 2 ⟨(some 10), none, .nilc (.t 9)⟩
  (.w 3 ⟨(some 11), none, .fa (.t 10) 1⟩
  (.rd 4 ⟨(some 12), none, .ld (.t 11) 1 false⟩
  (.w 5 ⟨(some 13), none, .mv (.t 1)⟩
  (.l 6 ⟨(some 14), none, .apps 5 (.t 12) (.t 13)⟩ []
  (.w 7 ⟨(some 15), none, .nilc (.t 8)⟩
  (.w 8 ⟨(some 16), none, .fa (.t 15) 1⟩
  (.l 9 ⟨none, none, .st 1 (.t 16) (.t 14)⟩ []
  .done .stop))) .stop))))))) (some [1]))
 (.seq (.reg false [] (.w 0 ⟨(some 17), none, .mv (.t 1)⟩
  (.w 1 ⟨(some 18), none, .len false (.t 17)⟩
  (.w 2 ⟨(some 4), none, .mv (.t 18)⟩
  (.w 3 ⟨(some 5), none, .mv (.c .nili)⟩
  .done)))) (some [4, 5]))
 .ret))))
def r_strings_Builder_WriteString : List RS := [.t 4, .t 5]
theorem chk_strings_Builder_WriteString : (chkC prog (max Tryd.f38.ntmps 2) s_strings_Builder_WriteString (Tryd.f38.body.getD .skip) && chkRS prog r_strings_Builder_WriteString Tryd.f38.results.toList) = true := by kernel_rfl
theorem mk_strings_Builder_WriteString {G : Glob} {args : List SV} {H : List SO} {K Kp : SV → List SO → Prop} (hl : args.length = 2) (h : VFun prog G 19 s_strings_Builder_WriteString r_strings_Builder_WriteString args H K Kp) : Con prog G 38 args H K Kp := by
  subst_vars
  exact con_of_vc (fn := Tryd.f38) (sc := s_strings_Builder_WriteString) (rs := r_strings_Builder_WriteString) rfl Tryd.func38 rfl (by rw [hl]; exact chk_strings_Builder_WriteString) (by rw [hl]; exact h)

/- (*strings.Builder).String; loops: []; slots [(b, 0), (b, 1)] -/
def s_strings_Builder_String : SCode :=
 (.seq (.reg false [] (.w 0 ⟨(some 2), none, .mv (.c (.str []))⟩
  .done) (some [0]))
 (.seq .bad /- op 4 at builder.go:47 -/
 .ret))
def r_strings_Builder_String : List RS := [.t 2]
theorem chk_strings_Builder_String : (chkC prog (max Tryd.f39.ntmps 1) s_strings_Builder_String (Tryd.f39.body.getD .skip) && chkRS prog r_strings_Builder_String Tryd.f39.results.toList) = true := by kernel_rfl
theorem mk_strings_Builder_String {G : Glob} {args : List SV} {H : List SO} {K Kp : SV → List SO → Prop} (hl : args.length = 1) (h : VFun prog G 14 s_strings_Builder_String r_strings_Builder_String args H K Kp) : Con prog G 39 args H K Kp := by
  subst_vars
  exact con_of_vc (fn := Tryd.f39) (sc := s_strings_Builder_String) (rs := r_strings_Builder_String) rfl Tryd.func39 rfl (by rw [hl]; exact chk_strings_Builder_String) (by rw [hl]; exact h)

/- (*strings.Builder).Grow; loops: []; slots [(b, 0), (n, 1), (b, 2), (n, 3)] -/
def s_strings_Builder_Grow : SCode :=
 (.seq (.reg false [] (.w 0 ⟨(some 4), none, .mv (.t 0)⟩
  (.l 1 ⟨(some 5), none, .call 54 [(.t 4)]⟩ []
  .done .stop)) (some [0, 1]))
 (.seq (.seq (.reg false [] (.w 0 ⟨(some 6), none, .mv (.t 1)⟩
  (.w 1 ⟨(some 7), none, .bin .lss .i (.t 6) (.c (.int .i64 0))⟩
  .done)) (some [0, 1, 7]))
 (.cond (.t 7) (.reg false [] (.w 0 ⟨(some 8), none, .mki 9 (.c (.str [115, 116, 114, 105, 110, 103, 115, 46, 66, 117, 105, 108, 100, 101, 114, 46, 71, 114, 111, 119, 58, 32, 110, 101, 103, 97, 116, 105, 118, 101, 32, 99, 111, 117, 110, 116]))⟩
  (.l 1 ⟨none, none, .pan (.t 8)⟩ []
  .done .stop)) (some [0, 1]))
 .skip))
 (.seq .bad /- op 4 at builder.go:80 -/
 (.cond (.t 21) (.reg false [] (.w 0 ⟨(some 22), none, .mv (.t 0)⟩
  (.w 1 ⟨(some 23), none, .mv (.t 1)⟩
  (.l 2 ⟨(some 24), none, .call 61 [(.t 22), (.t 23)]⟩ []
  .done .stop))) (some []))
 .skip))))
def r_strings_Builder_Grow : List RS := []
theorem chk_strings_Builder_Grow : (chkC prog (max Tryd.f46.ntmps 2) s_strings_Builder_Grow (Tryd.f46.body.getD .skip) && chkRS prog r_strings_Builder_Grow Tryd.f46.results.toList) = true := by kernel_rfl
theorem mk_strings_Builder_Grow {G : Glob} {args : List SV} {H : List SO} {K Kp : SV → List SO → Prop} (hl : args.length = 2) (h : VFun prog G 25 s_strings_Builder_Grow r_strings_Builder_Grow args H K Kp) : Con prog G 46 args H K Kp := by
  subst_vars
  exact con_of_vc (fn := Tryd.f46) (sc := s_strings_Builder_Grow) (rs := r_strings_Builder_Grow) rfl Tryd.func46 rfl (by rw [hl]; exact chk_strings_Builder_Grow) (by rw [hl]; exact h)

/- (*strings.Builder).Len; loops: []; slots [(b, 0), (b, 1)] -/
def s_strings_Builder_Len : SCode :=
 (.seq (.reg false [] (.w 0 ⟨(some 2), none, .mv (.c (.int .i64 0))⟩
  .done) (some [0]))
 (.seq (.reg false [] (.w 0 ⟨(some 3), none, .mv (.t 0)⟩
  (.w 1 ⟨(some 4), none, .nilc (.t 3)⟩
  (.w 2 ⟨(some 5), none, .fa (.t 4) 1⟩
  (.rd 3 ⟨(some 6), none, .ld (.t 5) 1 false⟩
  (.w 4 ⟨(some 7), none, .len true (.t 6)⟩
  (.w 5 ⟨(some 2), none, .mv (.t 7)⟩
  .done)))))) (some [2]))
 .ret))
def r_strings_Builder_Len : List RS := [.t 2]
theorem chk_strings_Builder_Len : (chkC prog (max Tryd.f47.ntmps 1) s_strings_Builder_Len (Tryd.f47.body.getD .skip) && chkRS prog r_strings_Builder_Len Tryd.f47.results.toList) = true := by kernel_rfl
theorem mk_strings_Builder_Len {G : Glob} {args : List SV} {H : List SO} {K Kp : SV → List SO → Prop} (hl : args.length = 1) (h : VFun prog G 8 s_strings_Builder_Len r_strings_Builder_Len args H K Kp) : Con prog G 47 args H K Kp := by
  subst_vars
  exact con_of_vc (fn := Tryd.f47) (sc := s_strings_Builder_Len) (rs := r_strings_Builder_Len) rfl Tryd.func47 rfl (by rw [hl]; exact chk_strings_Builder_Len) (by rw [hl]; exact h)

/- (*strings.Builder).copyCheck; loops: []; slots [(b, 0), (b, 1)] -/
def s_strings_Builder_copyCheck : SCode :=
 (.seq (.reg false [] (.w 0 ⟨(some 2), none, .mv (.t 0)⟩
  (.w 1 ⟨(some 3), none, .nilc (.t 2)⟩
  (.w 2 ⟨(some 4), none, .fa (.t 3) 0⟩
  (.rd 3 ⟨(some 5), none, .ld (.t 4) 1 false⟩
  (.w 4 ⟨(some 6), none, .bin .eql .p (.t 5) (.c .nilp)⟩
  .done))))) (some [0, 6]))
 (.cond (.t 6) .bad /- op 2 at builder.go:39 -/
 (.seq (.reg false [] (.w 0 ⟨(some 14), none, .mv (.t 0)⟩
  (.w 1 ⟨(some 15), none, .nilc (.t 14)⟩
  (.w 2 ⟨(some 16), none, .fa (.t 15) 0⟩
  (.rd 3 ⟨(some 17), none, .ld (.t 16) 1 false⟩
  (.w 4 ⟨(some 18), none, .mv (.t 0)⟩
  (.w 5 ⟨(some 19), none, .bin .neq .p (.t 17) (.t 18)⟩
  .done)))))) (some [19]))
 (.cond (.t 19) .bad /- refused -/
 .skip))))
def r_strings_Builder_copyCheck : List RS := []
theorem chk_strings_Builder_copyCheck : (chkC prog (max Tryd.f54.ntmps 1) s_strings_Builder_copyCheck (Tryd.f54.body.getD .skip) && chkRS prog r_strings_Builder_copyCheck Tryd.f54.results.toList) = true := by kernel_rfl
theorem mk_strings_Builder_copyCheck {G : Glob} {args : List SV} {H : List SO} {K Kp : SV → List SO → Prop} (hl : args.length = 1) (h : VFun prog G 20 s_strings_Builder_copyCheck r_strings_Builder_copyCheck args H K Kp) : Con prog G 54 args H K Kp := by
  subst_vars
  exact con_of_vc (fn := Tryd.f54) (sc := s_strings_Builder_copyCheck) (rs := r_strings_Builder_copyCheck) rfl Tryd.func54 rfl (by rw [hl]; exact chk_strings_Builder_copyCheck) (by rw [hl]; exact h)

/- strings.Trim; loops: []; slots [(s, 0), (cutset, 1), (s, 2), (cutset, 3), (as, 5), (ok, 6)] -/
def s_strings_Trim : SCode :=
 (.seq (.reg false [] (.w 0 ⟨(some 4), none, .mv (.c (.str []))⟩
  .done) (some [0, 1]))
 (.seq (.seq (.reg false [] (.w 0 ⟨(some 7), none, .mv (.t 0)⟩
  (.w 1 ⟨(some 8), none, .bin .eql .s (.t 7) (.c (.str []))⟩
  (.w 2 ⟨(some 9), none, .mv (.t 8)⟩
  (.w 3 ⟨(some 10), (some (9, false)), .mv (.t 1)⟩
  (.w 4 ⟨(some 11), (some (9, false)), .bin .eql .s (.t 10) (.c (.str []))⟩
  (.w 5 ⟨(some 12), none, .pick (.t 9) (.c (.bool true)) (.t 11)⟩
  .done)))))) (some [0, 1, 12]))
 (.cond (.t 12) (.seq (.reg false [] (.w 0 ⟨(some 13), none, .mv (.t 0)⟩
  (.w 1 ⟨(some 4), none, .mv (.t 13)⟩
  .done)) (some [4]))
 .ret)
 .skip))
 (.seq (.seq (.reg false [] (.w 0 ⟨(some 14), none, .mv (.t 1)⟩
  (.w 1 ⟨(some 15), none, .len false (.t 14)⟩
  (.w 2 ⟨(some 16), none, .bin .eql .i (.t 15) (.c (.int .i64 1))⟩
  (.w 3 ⟨(some 17), none, .mv (.t 16)⟩
  (.w 4 ⟨(some 18), (some (17, true)), .mv (.t 1)⟩
  (.w 5 ⟨(some 19), (some (17, true)), .idx (.t 18) (.c (.int .i64 0))⟩
  (.w 6 ⟨(some 20), (some (17, true)), .bin .lss .i (.t 19) (.c (.int .u8 128))⟩
  (.w 7 ⟨(some 21), none, .pick (.t 17) (.t 20) (.c (.bool false))⟩
  .done)))))))) (some [0, 1, 21]))
 (.cond (.t 21) (.seq (.reg true [[], [], [1], [0, 1, 2], [], [4], [0, 1, 2, 3, 4, 5], [0, 1, 2, 3, 4, 5, 6]] (.w 0 ⟨(some 22), none, .mv (.t 0)⟩
  (.w 1 ⟨(some 23), none, .mv (.t 1)⟩
  (.w 2 ⟨(some 24), none, .idx (.t 23) (.c (.int .i64 0))⟩
  (.w 4 ⟨(some 26), none, .mv (.t 1)⟩
  (.w 5 ⟨(some 27), none, .idx (.t 26) (.c (.int .i64 0))⟩
  (.l 3 ⟨(some 25), none, .call 69 [(.t 22), (.t 24)]⟩ []
  (.l 6 ⟨(some 28), none, .call 68 [(.t 25), (.t 27)]⟩ []
  (.w 7 ⟨(some 4), none, .mv (.t 28)⟩
  .done) .stop) .stop)))))) (some [4]))
 .ret)
 .skip))
 (.seq (.seq (.reg false [] (.w 0 ⟨(some 30), none, .mv (.t 1)⟩
  (.l 1 ⟨(some 31), none, .call 70 [(.t 30)]⟩ []
  (.w 2 ⟨(some 29), none, .mv (.t 31)⟩
  (.w 3 ⟨(some 32), none, .ext (.t 29) 0⟩
  (.w 4 ⟨(some 33), none, .ext (.t 29) 1⟩
  (.l 5 ⟨(some 5), none, .alloca (boolC ty_bool) (List.replicate 256 (boolC ty_bool).dflt)⟩ []
  (.l 6 ⟨none, none, .st 256 (.t 5) (.t 32)⟩ []
  (.w 7 ⟨(some 6), none, .mv (.t 33)⟩
  .done) .stop) .stop)))) .stop)) (some [0, 1, 5, 6]))
 (.seq (.reg false [] (.w 0 ⟨(some 34), none, .mv (.t 6)⟩
  .done) (some [0, 1, 5, 34]))
 (.cond (.t 34) (.seq (.reg false [] (.w 0 ⟨(some 35), none, .mv (.t 0)⟩
  (.l 1 ⟨(some 36), none, .call 72 [(.t 35), (.t 5)]⟩ []
  (.l 2 ⟨(some 37), none, .call 71 [(.t 36), (.t 5)]⟩ []
  (.w 3 ⟨(some 4), none, .mv (.t 37)⟩
  .done) .stop) .stop)) (some [4]))
 .ret)
 .skip)))
 (.seq (.reg false [] (.w 0 ⟨(some 38), none, .mv (.t 0)⟩
  (.w 1 ⟨(some 39), none, .mv (.t 1)⟩
  (.l 2 ⟨(some 40), none, .call 74 [(.t 38), (.t 39)]⟩ []
  (.w 3 ⟨(some 41), none, .mv (.t 1)⟩
  (.l 4 ⟨(some 42), none, .call 73 [(.t 40), (.t 41)]⟩ []
  (.w 5 ⟨(some 4), none, .mv (.t 42)⟩
  .done) .stop)) .stop))) (some [4]))
 .ret)))))
def r_strings_Trim : List RS := [.t 4]
theorem chk_strings_Trim : (chkC prog (max Tryd.f57.ntmps 2) s_strings_Trim (Tryd.f57.body.getD .skip) && chkRS prog r_strings_Trim Tryd.f57.results.toList) = true := by kernel_rfl
theorem mk_strings_Trim {G : Glob} {args : List SV} {H : List SO} {K Kp : SV → List SO → Prop} (hl : args.length = 2) (h : VFun prog G 43 s_strings_Trim r_strings_Trim args H K Kp) : Con prog G 57 args H K Kp := by
  subst_vars
  exact con_of_vc (fn := Tryd.f57) (sc := s_strings_Trim) (rs := r_strings_Trim) rfl Tryd.func57 rfl (by rw [hl]; exact chk_strings_Trim) (by rw [hl]; exact h)

/- (*strings.Builder).grow; loops: []; slots [(b, 0), (n, 1), (b, 2), (n, 3), (buf, 4)] -/
def s_strings_Builder_grow : SCode :=
 (.seq .bad /- op 4 at builder.go:67 -/
 (.seq .bad /- op 5 at builder.go:68 -/
 (.reg false [] (.w 0 ⟨(some 26), none, .mv (.t 0)⟩
  (.w 1 ⟨(some 27), none, .mv (.t 4)⟩
  (.w 2 ⟨(some 28), none, .nilc (.t 26)⟩
  (.w 3 ⟨(some 29), none, .fa (.t 28) 1⟩
  (.l 4 ⟨none, none, .st 1 (.t 29) (.t 27)⟩ []
  .done .stop))))) (some []))))
def r_strings_Builder_grow : List RS := []
theorem chk_strings_Builder_grow : (chkC prog (max Tryd.f61.ntmps 2) s_strings_Builder_grow (Tryd.f61.body.getD .skip) && chkRS prog r_strings_Builder_grow Tryd.f61.results.toList) = true := by kernel_rfl
theorem mk_strings_Builder_grow {G : Glob} {args : List SV} {H : List SO} {K Kp : SV → List SO → Prop} (hl : args.length = 2) (h : VFun prog G 30 s_strings_Builder_grow r_strings_Builder_grow args H K Kp) : Con prog G 61 args H K Kp := by
  subst_vars
  exact con_of_vc (fn := Tryd.f61) (sc := s_strings_Builder_grow) (rs := r_strings_Builder_grow) rfl Tryd.func61 rfl (by rw [hl]; exact chk_strings_Builder_grow) (by rw [hl]; exact h)

/- strings.trimLeftByte; loops: [[0, 1]]; slots [(s, 0), (c, 1), (s, 2), (c, 3)] -/
def s_strings_trimLeftByte : SCode :=
 (.seq (.reg false [] (.w 0 ⟨(some 4), none, .mv (.c (.str []))⟩
  .done) (some [0, 1]))
 (.seq (.block 0 (.loop (.seq (.seq (.reg false [] (.w 0 ⟨(some 5), none, .mv (.t 0)⟩
  (.w 1 ⟨(some 6), none, .len false (.t 5)⟩
  (.w 2 ⟨(some 7), none, .bin .gtr .i (.t 6) (.c (.int .i64 0))⟩
  (.w 3 ⟨(some 8), none, .mv (.t 7)⟩
  (.w 4 ⟨(some 9), (some (8, true)), .mv (.t 0)⟩
  (.w 5 ⟨(some 10), (some (8, true)), .idx (.t 9) (.c (.int .i64 0))⟩
  (.w 6 ⟨(some 11), (some (8, true)), .mv (.t 1)⟩
  (.w 7 ⟨(some 12), (some (8, true)), .bin .eql .i (.t 10) (.t 11)⟩
  (.w 8 ⟨(some 13), none, .pick (.t 8) (.t 12) (.c (.bool false))⟩
  .done))))))))) (some [0, 1, 13]))
 (.cond (.t 13) .skip
 (.exit 0)))
 (.block 1 (.reg false [] (.w 0 ⟨(some 14), none, .mv (.t 0)⟩
  (.w 1 ⟨(some 15), none, .sub (.t 14) (some (.c (.int .i64 1))) none⟩
  (.w 2 ⟨(some 0), none, .mv (.t 15)⟩
  .done))) (some [0, 1]))))))
 (.seq (.reg false [] (.w 0 ⟨(some 16), none, .mv (.t 0)⟩
  (.w 1 ⟨(some 4), none, .mv (.t 16)⟩
  .done)) (some [4]))
 .ret)))
def r_strings_trimLeftByte : List RS := [.t 4]
theorem chk_strings_trimLeftByte : (chkC prog (max Tryd.f68.ntmps 2) s_strings_trimLeftByte (Tryd.f68.body.getD .skip) && chkRS prog r_strings_trimLeftByte Tryd.f68.results.toList) = true := by kernel_rfl
theorem mk_strings_trimLeftByte {G : Glob} {args : List SV} {H : List SO} {K Kp : SV → List SO → Prop} (hl : args.length = 2) (h : VFun prog G 17 s_strings_trimLeftByte r_strings_trimLeftByte args H K Kp) : Con prog G 68 args H K Kp := by
  subst_vars
  exact con_of_vc (fn := Tryd.f68) (sc := s_strings_trimLeftByte) (rs := r_strings_trimLeftByte) rfl Tryd.func68 rfl (by rw [hl]; exact chk_strings_trimLeftByte) (by rw [hl]; exact h)

/- strings.trimRightByte; loops: [[0, 1]]; slots [(s, 0), (c, 1), (s, 2), (c, 3)] -/
def s_strings_trimRightByte : SCode :=
 (.seq (.reg false [] (.w 0 ⟨(some 4), none, .mv (.c (.str []))⟩
  .done) (some [0, 1]))
 (.seq (.block 0 (.loop (.seq (.seq (.reg false [] (.w 0 ⟨(some 5), none, .mv (.t 0)⟩
  (.w 1 ⟨(some 6), none, .len false (.t 5)⟩
  (.w 2 ⟨(some 7), none, .bin .gtr .i (.t 6) (.c (.int .i64 0))⟩
  (.w 3 ⟨(some 8), none, .mv (.t 7)⟩
  (.w 4 ⟨(some 9), (some (8, true)), .mv (.t 0)⟩
  (.w 5 ⟨(some 10), (some (8, true)), .mv (.t 0)⟩
  (.w 6 ⟨(some 11), (some (8, true)), .len false (.t 10)⟩
  (.w 7 ⟨(some 12), (some (8, true)), .bin .sub .i (.t 11) (.c (.int .i64 1))⟩
  (.w 8 ⟨(some 13), (some (8, true)), .idx (.t 9) (.t 12)⟩
  (.w 9 ⟨(some 14), (some (8, true)), .mv (.t 1)⟩
  (.w 10 ⟨(some 15), (some (8, true)), .bin .eql .i (.t 13) (.t 14)⟩
  (.w 11 ⟨(some 16), none, .pick (.t 8) (.t 15) (.c (.bool false))⟩
  .done)))))))))))) (some [0, 1, 16]))
 (.cond (.t 16) .skip
 (.exit 0)))
 (.block 1 (.reg false [] (.w 0 ⟨(some 17), none, .mv (.t 0)⟩
  (.w 1 ⟨(some 18), none, .mv (.t 0)⟩
  (.w 2 ⟨(some 19), none, .len false (.t 18)⟩
  (.w 3 ⟨(some 20), none, .bin .sub .i (.t 19) (.c (.int .i64 1))⟩
  (.w 4 ⟨(some 21), none, .sub (.t 17) none (some (.t 20))⟩
  (.w 5 ⟨(some 0), none, .mv (.t 21)⟩
  .done)))))) (some [0, 1]))))))
 (.seq (.reg false [] (.w 0 ⟨(some 22), none, .mv (.t 0)⟩
  (.w 1 ⟨(some 4), none, .mv (.t 22)⟩
  .done)) (some [4]))
 .ret)))
def r_strings_trimRightByte : List RS := [.t 4]
theorem chk_strings_trimRightByte : (chkC prog (max Tryd.f69.ntmps 2) s_strings_trimRightByte (Tryd.f69.body.getD .skip) && chkRS prog r_strings_trimRightByte Tryd.f69.results.toList) = true := by kernel_rfl
theorem mk_strings_trimRightByte {G : Glob} {args : List SV} {H : List SO} {K Kp : SV → List SO → Prop} (hl : args.length = 2) (h : VFun prog G 23 s_strings_trimRightByte r_strings_trimRightByte args H K Kp) : Con prog G 69 args H K Kp := by
  subst_vars
  exact con_of_vc (fn := Tryd.f69) (sc := s_strings_trimRightByte) (rs := r_strings_trimRightByte) rfl Tryd.func69 rfl (by rw [hl]; exact chk_strings_trimRightByte) (by rw [hl]; exact h)

/- strings.makeASCIISet; loops: [[0, 2, 4]]; slots [(chars, 0), (chars, 1), (as, 2), (ok, 3), (i, 4), (c, 5)] -/
def s_strings_makeASCIISet : SCode :=
 (.seq (.reg false [] (.l 0 ⟨(some 2), none, .alloca (boolC ty_bool) (List.replicate 256 (boolC ty_bool).dflt)⟩ []
  (.w 1 ⟨(some 3), none, .mv (.c (.bool false))⟩
  .done) .stop) (some [0, 2]))
 (.seq (.seq (.reg false [] (.w 0 ⟨(some 4), none, .mv (.c (.int .i64 0))⟩
  .done) (some [0, 2, 4]))
 (.block 0 (.loop (.seq (.seq (.reg false [] (.w 0 ⟨(some 6), none, .mv (.t 4)⟩
  (.w 1 ⟨(some 7), none, .mv (.t 0)⟩
  (.w 2 ⟨(some 8), none, .len false (.t 7)⟩
  (.w 3 ⟨(some 9), none, .bin .lss .i (.t 6) (.t 8)⟩
  .done)))) (some [0, 2, 4, 9]))
 (.cond (.t 9) .skip
 (.exit 0)))
 (.seq (.block 1 (.seq (.reg false [] (.w 0 ⟨(some 12), none, .mv (.t 0)⟩
  (.w 1 ⟨(some 13), none, .mv (.t 4)⟩
  (.w 2 ⟨(some 14), none, .idx (.t 12) (.t 13)⟩
  (.w 3 ⟨(some 5), none, .mv (.t 14)⟩
  .done)))) (some [0, 2, 4, 5]))
 (.seq (.seq (.reg false [] (.w 0 ⟨(some 15), none, .mv (.t 5)⟩
  (.w 1 ⟨(some 16), none, .bin .geq .i (.t 15) (.c (.int .u8 128))⟩
  .done)) (some [0, 2, 4, 5, 16]))
 (.cond (.t 16) (.seq (.reg false [] (.rd 0 ⟨(some 17), none, .ld (.t 2) 256 true⟩
  (.l 1 ⟨none, none, .st 256 (.t 2) (.t 17)⟩ []
  (.w 2 ⟨(some 3), none, .mv (.c (.bool false))⟩
  .done) .stop)) (some [2, 3]))
 .ret)
 .skip))
 (.reg false [] (.w 0 ⟨(some 18), none, .mv (.t 5)⟩
  (.w 1 ⟨(some 19), none, .iaa (.t 2) (.t 18) 1 256⟩
  (.l 2 ⟨none, none, .st 1 (.t 19) (.c (.bool true))⟩ []
  .done .stop))) (some [0, 2, 4])))))
 (.reg false [] (.w 0 ⟨(some 10), none, .mv (.t 4)⟩
  (.w 1 ⟨(some 11), none, .bin .add .i (.t 10) (.c (.int .i64 1))⟩
  (.w 2 ⟨(some 4), none, .mv (.t 11)⟩
  .done))) (some [0, 2, 4])))))))
 (.seq (.reg false [] (.rd 0 ⟨(some 20), none, .ld (.t 2) 256 true⟩
  (.l 1 ⟨none, none, .st 256 (.t 2) (.t 20)⟩ []
  (.w 2 ⟨(some 3), none, .mv (.c (.bool true))⟩
  .done) .stop)) (some [2, 3]))
 .ret)))
def r_strings_makeASCIISet : List RS := [.c 2 256 true, .t 3]
theorem chk_strings_makeASCIISet : (chkC prog (max Tryd.f70.ntmps 1) s_strings_makeASCIISet (Tryd.f70.body.getD .skip) && chkRS prog r_strings_makeASCIISet Tryd.f70.results.toList) = true := by kernel_rfl
theorem mk_strings_makeASCIISet {G : Glob} {args : List SV} {H : List SO} {K Kp : SV → List SO → Prop} (hl : args.length = 1) (h : VFun prog G 21 s_strings_makeASCIISet r_strings_makeASCIISet args H K Kp) : Con prog G 70 args H K Kp := by
  subst_vars
  exact con_of_vc (fn := Tryd.f70) (sc := s_strings_makeASCIISet) (rs := r_strings_makeASCIISet) rfl Tryd.func70 rfl (by rw [hl]; exact chk_strings_makeASCIISet) (by rw [hl]; exact h)

/- strings.trimLeftASCII; loops: [[0, 1]]; slots [(s, 0), (as, 1), (s, 2), (as, 3)] -/
def s_strings_trimLeftASCII : SCode :=
 (.seq (.reg false [] (.w 0 ⟨(some 4), none, .mv (.c (.str []))⟩
  .done) (some [0, 1]))
 (.seq (.block 0 (.loop (.seq (.seq (.reg false [] (.w 0 ⟨(some 5), none, .mv (.t 0)⟩
  (.w 1 ⟨(some 6), none, .len false (.t 5)⟩
  (.w 2 ⟨(some 7), none, .bin .gtr .i (.t 6) (.c (.int .i64 0))⟩
  .done))) (some [0, 1, 7]))
 (.cond (.t 7) .skip
 (.exit 0)))
 (.block 1 (.seq (.seq (.reg false [] (.w 0 ⟨(some 8), none, .mv (.t 1)⟩
  (.w 1 ⟨(some 9), none, .mv (.t 0)⟩
  (.w 2 ⟨(some 10), none, .idx (.t 9) (.c (.int .i64 0))⟩
  (.l 3 ⟨(some 11), none, .call 79 [(.t 8), (.t 10)]⟩ []
  (.w 4 ⟨(some 12), none, .un .not (.t 11)⟩
  .done) .stop)))) (some [0, 1, 12]))
 (.cond (.t 12) (.exit 0)
 .skip))
 (.reg false [] (.w 0 ⟨(some 13), none, .mv (.t 0)⟩
  (.w 1 ⟨(some 14), none, .sub (.t 13) (some (.c (.int .i64 1))) none⟩
  (.w 2 ⟨(some 0), none, .mv (.t 14)⟩
  .done))) (some [0, 1])))))))
 (.seq (.reg false [] (.w 0 ⟨(some 15), none, .mv (.t 0)⟩
  (.w 1 ⟨(some 4), none, .mv (.t 15)⟩
  .done)) (some [4]))
 .ret)))
def r_strings_trimLeftASCII : List RS := [.t 4]
theorem chk_strings_trimLeftASCII : (chkC prog (max Tryd.f71.ntmps 2) s_strings_trimLeftASCII (Tryd.f71.body.getD .skip) && chkRS prog r_strings_trimLeftASCII Tryd.f71.results.toList) = true := by kernel_rfl
theorem mk_strings_trimLeftASCII {G : Glob} {args : List SV} {H : List SO} {K Kp : SV → List SO → Prop} (hl : args.length = 2) (h : VFun prog G 16 s_strings_trimLeftASCII r_strings_trimLeftASCII args H K Kp) : Con prog G 71 args H K Kp := by
  subst_vars
  exact con_of_vc (fn := Tryd.f71) (sc := s_strings_trimLeftASCII) (rs := r_strings_trimLeftASCII) rfl Tryd.func71 rfl (by rw [hl]; exact chk_strings_trimLeftASCII) (by rw [hl]; exact h)

/- strings.trimRightASCII; loops: [[0, 1]]; slots [(s, 0), (as, 1), (s, 2), (as, 3)] -/
def s_strings_trimRightASCII : SCode :=
 (.seq (.reg false [] (.w 0 ⟨(some 4), none, .mv (.c (.str []))⟩
  .done) (some [0, 1]))
 (.seq (.block 0 (.loop (.seq (.seq (.reg false [] (.w 0 ⟨(some 5), none, .mv (.t 0)⟩
  (.w 1 ⟨(some 6), none, .len false (.t 5)⟩
  (.w 2 ⟨(some 7), none, .bin .gtr .i (.t 6) (.c (.int .i64 0))⟩
  .done))) (some [0, 1, 7]))
 (.cond (.t 7) .skip
 (.exit 0)))
 (.block 1 (.seq (.seq (.reg false [] (.w 0 ⟨(some 8), none, .mv (.t 1)⟩
  (.w 1 ⟨(some 9), none, .mv (.t 0)⟩
  (.w 2 ⟨(some 10), none, .mv (.t 0)⟩
  (.w 3 ⟨(some 11), none, .len false (.t 10)⟩
  (.w 4 ⟨(some 12), none, .bin .sub .i (.t 11) (.c (.int .i64 1))⟩
  (.w 5 ⟨(some 13), none, .idx (.t 9) (.t 12)⟩
  (.l 6 ⟨(some 14), none, .call 79 [(.t 8), (.t 13)]⟩ []
  (.w 7 ⟨(some 15), none, .un .not (.t 14)⟩
  .done) .stop))))))) (some [0, 1, 15]))
 (.cond (.t 15) (.exit 0)
 .skip))
 (.reg false [] (.w 0 ⟨(some 16), none, .mv (.t 0)⟩
  (.w 1 ⟨(some 17), none, .mv (.t 0)⟩
  (.w 2 ⟨(some 18), none, .len false (.t 17)⟩
  (.w 3 ⟨(some 19), none, .bin .sub .i (.t 18) (.c (.int .i64 1))⟩
  (.w 4 ⟨(some 20), none, .sub (.t 16) none (some (.t 19))⟩
  (.w 5 ⟨(some 0), none, .mv (.t 20)⟩
  .done)))))) (some [0, 1])))))))
 (.seq (.reg false [] (.w 0 ⟨(some 21), none, .mv (.t 0)⟩
  (.w 1 ⟨(some 4), none, .mv (.t 21)⟩
  .done)) (some [4]))
 .ret)))
def r_strings_trimRightASCII : List RS := [.t 4]
theorem chk_strings_trimRightASCII : (chkC prog (max Tryd.f72.ntmps 2) s_strings_trimRightASCII (Tryd.f72.body.getD .skip) && chkRS prog r_strings_trimRightASCII Tryd.f72.results.toList) = true := by kernel_rfl
theorem mk_strings_trimRightASCII {G : Glob} {args : List SV} {H : List SO} {K Kp : SV → List SO → Prop} (hl : args.length = 2) (h : VFun prog G 22 s_strings_trimRightASCII r_strings_trimRightASCII args H K Kp) : Con prog G 72 args H K Kp := by
  subst_vars
  exact con_of_vc (fn := Tryd.f72) (sc := s_strings_trimRightASCII) (rs := r_strings_trimRightASCII) rfl Tryd.func72 rfl (by rw [hl]; exact chk_strings_trimRightASCII) (by rw [hl]; exact h)

/- strings.trimLeftUnicode; loops: [[0, 1]]; slots [(s, 0), (cutset, 1), (s, 2), (cutset, 3), (r, 5), (n, 6)] -/
def s_strings_trimLeftUnicode : SCode :=
 (.seq (.reg false [] (.w 0 ⟨(some 4), none, .mv (.c (.str []))⟩
  .done) (some [0, 1]))
 (.seq (.block 0 (.loop (.seq (.seq (.reg false [] (.w 0 ⟨(some 7), none, .mv (.t 0)⟩
  (.w 1 ⟨(some 8), none, .len false (.t 7)⟩
  (.w 2 ⟨(some 9), none, .bin .gtr .i (.t 8) (.c (.int .i64 0))⟩
  .done))) (some [0, 1, 9]))
 (.cond (.t 9) .skip
 (.exit 0)))
 (.block 1 (.seq (.reg false [] (.w 0 ⟨(some 11), none, .mv (.t 0)⟩
  (.l 1 ⟨(some 12), none, .call 80 [(.t 11)]⟩ []
  (.w 2 ⟨(some 10), none, .mv (.t 12)⟩
  (.w 3 ⟨(some 13), none, .ext (.t 10) 0⟩
  (.w 4 ⟨(some 14), none, .ext (.t 10) 1⟩
  (.w 5 ⟨(some 5), none, .mv (.t 13)⟩
  (.w 6 ⟨(some 6), none, .mv (.t 14)⟩
  .done))))) .stop)) (some [0, 1, 5, 6]))
 (.seq (.seq (.reg false [] (.w 0 ⟨(some 15), none, .mv (.t 1)⟩
  (.w 1 ⟨(some 16), none, .mv (.t 5)⟩
  (.l 2 ⟨(some 17), none, .call 81 [(.t 15), (.t 16)]⟩ []
  (.w 3 ⟨(some 18), none, .un .not (.t 17)⟩
  .done) .stop))) (some [0, 1, 6, 18]))
 (.cond (.t 18) (.exit 0)
 .skip))
 (.reg false [] (.w 0 ⟨(some 19), none, .mv (.t 0)⟩
  (.w 1 ⟨(some 20), none, .mv (.t 6)⟩
  (.w 2 ⟨(some 21), none, .sub (.t 19) (some (.t 20)) none⟩
  (.w 3 ⟨(some 0), none, .mv (.t 21)⟩
  .done)))) (some [0, 1]))))))))
 (.seq (.reg false [] (.w 0 ⟨(some 22), none, .mv (.t 0)⟩
  (.w 1 ⟨(some 4), none, .mv (.t 22)⟩
  .done)) (some [4]))
 .ret)))
def r_strings_trimLeftUnicode : List RS := [.t 4]
theorem chk_strings_trimLeftUnicode : (chkC prog (max Tryd.f73.ntmps 2) s_strings_trimLeftUnicode (Tryd.f73.body.getD .skip) && chkRS prog r_strings_trimLeftUnicode Tryd.f73.results.toList) = true := by kernel_rfl
theorem mk_strings_trimLeftUnicode {G : Glob} {args : List SV} {H : List SO} {K Kp : SV → List SO → Prop} (hl : args.length = 2) (h : VFun prog G 23 s_strings_trimLeftUnicode r_strings_trimLeftUnicode args H K Kp) : Con prog G 73 args H K Kp := by
  subst_vars
  exact con_of_vc (fn := Tryd.f73) (sc := s_strings_trimLeftUnicode) (rs := r_strings_trimLeftUnicode) rfl Tryd.func73 rfl (by rw [hl]; exact chk_strings_trimLeftUnicode) (by rw [hl]; exact h)

/- strings.trimRightUnicode; loops: [[0, 1]]; slots [(s, 0), (cutset, 1), (s, 2), (cutset, 3), (r, 5), (n, 6)] -/
def s_strings_trimRightUnicode : SCode :=
 (.seq (.reg false [] (.w 0 ⟨(some 4), none, .mv (.c (.str []))⟩
  .done) (some [0, 1]))
 (.seq (.block 0 (.loop (.seq (.seq (.reg false [] (.w 0 ⟨(some 7), none, .mv (.t 0)⟩
  (.w 1 ⟨(some 8), none, .len false (.t 7)⟩
  (.w 2 ⟨(some 9), none, .bin .gtr .i (.t 8) (.c (.int .i64 0))⟩
  .done))) (some [0, 1, 9]))
 (.cond (.t 9) .skip
 (.exit 0)))
 (.block 1 (.seq (.reg false [] (.w 0 ⟨(some 10), none, .mv (.t 0)⟩
  (.w 1 ⟨(some 11), none, .mv (.t 0)⟩
  (.w 2 ⟨(some 12), none, .len false (.t 11)⟩
  (.w 3 ⟨(some 13), none, .bin .sub .i (.t 12) (.c (.int .i64 1))⟩
  (.w 4 ⟨(some 14), none, .idx (.t 10) (.t 13)⟩
  (.w 5 ⟨(some 15), none, .conv .i32 (.t 14)⟩
  (.w 6 ⟨(some 5), none, .mv (.t 15)⟩
  (.w 7 ⟨(some 6), none, .mv (.c (.int .i64 1))⟩
  .done)))))))) (some [0, 1, 5, 6]))
 (.seq (.seq (.reg false [] (.w 0 ⟨(some 16), none, .mv (.t 5)⟩
  (.w 1 ⟨(some 17), none, .bin .geq .i (.t 16) (.c (.int .i32 128))⟩
  .done)) (some [0, 1, 5, 6, 17]))
 (.cond (.t 17) (.reg false [] (.w 0 ⟨(some 19), none, .mv (.t 0)⟩
  (.l 1 ⟨(some 20), none, .call 82 [(.t 19)]⟩ []
  (.w 2 ⟨(some 18), none, .mv (.t 20)⟩
  (.w 3 ⟨(some 21), none, .ext (.t 18) 0⟩
  (.w 4 ⟨(some 22), none, .ext (.t 18) 1⟩
  (.w 5 ⟨(some 5), none, .mv (.t 21)⟩
  (.w 6 ⟨(some 6), none, .mv (.t 22)⟩
  .done))))) .stop)) (some [0, 1, 5, 6]))
 .skip))
 (.seq (.seq (.reg false [] (.w 0 ⟨(some 23), none, .mv (.t 1)⟩
  (.w 1 ⟨(some 24), none, .mv (.t 5)⟩
  (.l 2 ⟨(some 25), none, .call 81 [(.t 23), (.t 24)]⟩ []
  (.w 3 ⟨(some 26), none, .un .not (.t 25)⟩
  .done) .stop))) (some [0, 1, 6, 26]))
 (.cond (.t 26) (.exit 0)
 .skip))
 (.reg false [] (.w 0 ⟨(some 27), none, .mv (.t 0)⟩
  (.w 1 ⟨(some 28), none, .mv (.t 0)⟩
  (.w 2 ⟨(some 29), none, .len false (.t 28)⟩
  (.w 3 ⟨(some 30), none, .mv (.t 6)⟩
  (.w 4 ⟨(some 31), none, .bin .sub .i (.t 29) (.t 30)⟩
  (.w 5 ⟨(some 32), none, .sub (.t 27) none (some (.t 31))⟩
  (.w 6 ⟨(some 0), none, .mv (.t 32)⟩
  .done))))))) (some [0, 1])))))))))
 (.seq (.reg false [] (.w 0 ⟨(some 33), none, .mv (.t 0)⟩
  (.w 1 ⟨(some 4), none, .mv (.t 33)⟩
  .done)) (some [4]))
 .ret)))
def r_strings_trimRightUnicode : List RS := [.t 4]
theorem chk_strings_trimRightUnicode : (chkC prog (max Tryd.f74.ntmps 2) s_strings_trimRightUnicode (Tryd.f74.body.getD .skip) && chkRS prog r_strings_trimRightUnicode Tryd.f74.results.toList) = true := by kernel_rfl
theorem mk_strings_trimRightUnicode {G : Glob} {args : List SV} {H : List SO} {K Kp : SV → List SO → Prop} (hl : args.length = 2) (h : VFun prog G 34 s_strings_trimRightUnicode r_strings_trimRightUnicode args H K Kp) : Con prog G 74 args H K Kp := by
  subst_vars
  exact con_of_vc (fn := Tryd.f74) (sc := s_strings_trimRightUnicode) (rs := r_strings_trimRightUnicode) rfl Tryd.func74 rfl (by rw [hl]; exact chk_strings_trimRightUnicode) (by rw [hl]; exact h)

/- (*strings.asciiSet).contains; loops: []; slots [(as, 0), (c, 1), (as, 2), (c, 3)] -/
def s_strings_asciiSet_contains : SCode :=
 (.seq (.reg false [] (.w 0 ⟨(some 4), none, .mv (.c (.bool false))⟩
  .done) (some [0, 1]))
 (.seq (.reg false [] (.w 0 ⟨(some 5), none, .mv (.t 0)⟩
  (.w 1 ⟨(some 6), none, .mv (.t 1)⟩
  (.w 2 ⟨(some 7), none, .nilc (.t 5)⟩
  (.w 3 ⟨(some 8), none, .iaa (.t 7) (.t 6) 1 256⟩
  (.rd 4 ⟨(some 9), none, .ld (.t 8) 1 false⟩
  (.w 5 ⟨(some 4), none, .mv (.t 9)⟩
  .done)))))) (some [4]))
 .ret))
def r_strings_asciiSet_contains : List RS := [.t 4]
theorem chk_strings_asciiSet_contains : (chkC prog (max Tryd.f79.ntmps 2) s_strings_asciiSet_contains (Tryd.f79.body.getD .skip) && chkRS prog r_strings_asciiSet_contains Tryd.f79.results.toList) = true := by kernel_rfl
theorem mk_strings_asciiSet_contains {G : Glob} {args : List SV} {H : List SO} {K Kp : SV → List SO → Prop} (hl : args.length = 2) (h : VFun prog G 10 s_strings_asciiSet_contains r_strings_asciiSet_contains args H K Kp) : Con prog G 79 args H K Kp := by
  subst_vars
  exact con_of_vc (fn := Tryd.f79) (sc := s_strings_asciiSet_contains) (rs := r_strings_asciiSet_contains) rfl Tryd.func79 rfl (by rw [hl]; exact chk_strings_asciiSet_contains) (by rw [hl]; exact h)

/- strings.ContainsRune; loops: []; slots [(s, 0), (r, 1), (s, 2), (r, 3)] -/
def s_strings_ContainsRune : SCode :=
 (.seq (.reg false [] (.w 0 ⟨(some 4), none, .mv (.c (.bool false))⟩
  .done) (some [0, 1]))
 (.seq (.reg false [] (.w 0 ⟨(some 5), none, .mv (.t 0)⟩
  (.w 1 ⟨(some 6), none, .mv (.t 1)⟩
  (.l 2 ⟨(some 7), none, .call 85 [(.t 5), (.t 6)]⟩ []
  (.w 3 ⟨(some 8), none, .bin .geq .i (.t 7) (.c (.int .i64 0))⟩
  (.w 4 ⟨(some 4), none, .mv (.t 8)⟩
  .done)) .stop))) (some [4]))
 .ret))
def r_strings_ContainsRune : List RS := [.t 4]
theorem chk_strings_ContainsRune : (chkC prog (max Tryd.f81.ntmps 2) s_strings_ContainsRune (Tryd.f81.body.getD .skip) && chkRS prog r_strings_ContainsRune Tryd.f81.results.toList) = true := by kernel_rfl
theorem mk_strings_ContainsRune {G : Glob} {args : List SV} {H : List SO} {K Kp : SV → List SO → Prop} (hl : args.length = 2) (h : VFun prog G 9 s_strings_ContainsRune r_strings_ContainsRune args H K Kp) : Con prog G 81 args H K Kp := by
  subst_vars
  exact con_of_vc (fn := Tryd.f81) (sc := s_strings_ContainsRune) (rs := r_strings_ContainsRune) rfl Tryd.func81 rfl (by rw [hl]; exact chk_strings_ContainsRune) (by rw [hl]; exact h)

/- strings.IndexRune; loops: [[175]]; slots [(s, 0), (r, 1), (s, 2), (r, 3), (i, 5), (r, 6), (rs, 7), (last, 8), (i, 9), (fails, 10), (o, 11), (j, 12), (j, 13), (c0, 14), (c1, 15), (k, 16)] -/
def s_strings_IndexRune : SCode :=
 (.seq (.reg false [] (.w 0 ⟨(some 4), none, .mv (.c (.int .i64 0))⟩
  .done) (some [0, 1, 4]))
 (.block 0 (.seq (.reg false [] (.w 0 ⟨(some 161), none, .mv (.t 1)⟩
  (.w 1 ⟨(some 162), none, .bin .leq .i (.c (.int .i32 0)) (.t 161)⟩
  (.w 2 ⟨(some 163), none, .mv (.t 162)⟩
  (.w 3 ⟨(some 164), (some (163, true)), .mv (.t 1)⟩
  (.w 4 ⟨(some 165), (some (163, true)), .bin .lss .i (.t 164) (.c (.int .i32 128))⟩
  (.w 5 ⟨(some 166), none, .pick (.t 163) (.t 165) (.c (.bool false))⟩
  (.w 6 ⟨(some 160), none, .mv (.t 166)⟩
  .done))))))) (some [0, 1, 4, 160]))
 (.cond (.t 160) (.seq (.reg false [] (.w 0 ⟨(some 167), none, .mv (.t 0)⟩
  (.w 1 ⟨(some 168), none, .mv (.t 1)⟩
  (.w 2 ⟨(some 169), none, .conv .u8 (.t 168)⟩
  (.l 3 ⟨(some 170), none, .call 87 [(.t 167), (.t 169)]⟩ []
  (.w 4 ⟨(some 4), none, .mv (.t 170)⟩
  .done) .stop)))) (some [4]))
 .ret)
 (.seq (.reg false [] (.w 0 ⟨(some 172), none, .mv (.t 1)⟩
  (.w 1 ⟨(some 173), none, .bin .eql .i (.t 172) (.c (.int .i32 65533))⟩
  (.w 2 ⟨(some 171), none, .mv (.t 173)⟩
  .done))) (some [0, 1, 4, 171]))
 (.cond (.t 171) (.seq (.seq .bad /- op 1 at strings.go:116 -/
 (.block 9 (.loop (.seq .bad /- op 0 at strings.go:116 -/
 (.seq (.cond (.t 177) .skip
 (.exit 9))
 (.block 10 (.seq (.reg false [] (.w 0 ⟨(some 178), none, .ext (.t 176) 1⟩
  (.w 1 ⟨(some 179), none, .ext (.t 176) 2⟩
  (.w 2 ⟨(some 5), none, .mv (.t 178)⟩
  (.w 3 ⟨(some 6), none, .mv (.t 179)⟩
  .done)))) (some [5, 6, 175]))
 (.seq (.reg false [] (.w 0 ⟨(some 180), none, .mv (.t 6)⟩
  (.w 1 ⟨(some 181), none, .bin .eql .i (.t 180) (.c (.int .i32 65533))⟩
  .done)) (some [5, 175, 181]))
 (.cond (.t 181) (.seq (.reg false [] (.w 0 ⟨(some 182), none, .mv (.t 5)⟩
  (.w 1 ⟨(some 4), none, .mv (.t 182)⟩
  .done)) (some [4]))
 .ret)
 .skip)))))))))
 (.seq (.reg false [] (.w 0 ⟨(some 4), none, .mv (.c (.int .i64 (-1)))⟩
  .done) (some [4]))
 .ret))
 (.seq (.reg false [] (.w 0 ⟨(some 184), none, .mv (.t 1)⟩
  (.l 1 ⟨(some 185), none, .call 88 [(.t 184)]⟩ []
  (.w 2 ⟨(some 186), none, .un .not (.t 185)⟩
  (.w 3 ⟨(some 183), none, .mv (.t 186)⟩
  .done)) .stop)) (some [4, 183]))
 (.cond (.t 183) (.seq (.reg false [] (.w 0 ⟨(some 4), none, .mv (.c (.int .i64 (-1)))⟩
  .done) (some [4]))
 .ret)
 .bad /- scope -/))))))))
def r_strings_IndexRune : List RS := [.t 4]
theorem chk_strings_IndexRune : (chkC prog (max Tryd.f85.ntmps 2) s_strings_IndexRune (Tryd.f85.body.getD .skip) && chkRS prog r_strings_IndexRune Tryd.f85.results.toList) = true := by kernel_rfl
theorem mk_strings_IndexRune {G : Glob} {args : List SV} {H : List SO} {K Kp : SV → List SO → Prop} (hl : args.length = 2) (h : VFun prog G 187 s_strings_IndexRune r_strings_IndexRune args H K Kp) : Con prog G 85 args H K Kp := by
  subst_vars
  exact con_of_vc (fn := Tryd.f85) (sc := s_strings_IndexRune) (rs := r_strings_IndexRune) rfl Tryd.func85 rfl (by rw [hl]; exact chk_strings_IndexRune) (by rw [hl]; exact h)

/- strings.IndexByte; loops: []; slots [(s, 0), (c, 1), (s, 2), (c, 3)] -/
def s_strings_IndexByte : SCode :=
 (.seq (.reg false [] (.w 0 ⟨(some 4), none, .mv (.c (.int .i64 0))⟩
  .done) (some [0, 1]))
 (.seq (.reg false [] (.w 0 ⟨(some 5), none, .mv (.t 0)⟩
  (.w 1 ⟨(some 6), none, .mv (.t 1)⟩
  (.l 2 ⟨(some 7), none, .call 91 [(.t 5), (.t 6)]⟩ []
  (.w 3 ⟨(some 4), none, .mv (.t 7)⟩
  .done) .stop))) (some [4]))
 .ret))
def r_strings_IndexByte : List RS := [.t 4]
theorem chk_strings_IndexByte : (chkC prog (max Tryd.f87.ntmps 2) s_strings_IndexByte (Tryd.f87.body.getD .skip) && chkRS prog r_strings_IndexByte Tryd.f87.results.toList) = true := by kernel_rfl
theorem mk_strings_IndexByte {G : Glob} {args : List SV} {H : List SO} {K Kp : SV → List SO → Prop} (hl : args.length = 2) (h : VFun prog G 8 s_strings_IndexByte r_strings_IndexByte args H K Kp) : Con prog G 87 args H K Kp := by
  subst_vars
  exact con_of_vc (fn := Tryd.f87) (sc := s_strings_IndexByte) (rs := r_strings_IndexByte) rfl Tryd.func87 rfl (by rw [hl]; exact chk_strings_IndexByte) (by rw [hl]; exact h)

-- 109 (*strings.Builder).Reset: no body
/- (*sync/atomic.Int64).Store; loops: []; slots [(x, 0), (val, 1), (x, 2), (val, 3)] -/
def s_sync_atomic_Int64_Store : SCode :=
 .bad /- op 4 at type.go:117 -/
def r_sync_atomic_Int64_Store : List RS := []
theorem chk_sync_atomic_Int64_Store : (chkC prog (max Tryd.f23.ntmps 2) s_sync_atomic_Int64_Store (Tryd.f23.body.getD .skip) && chkRS prog r_sync_atomic_Int64_Store Tryd.f23.results.toList) = true := by kernel_rfl
theorem mk_sync_atomic_Int64_Store {G : Glob} {args : List SV} {H : List SO} {K Kp : SV → List SO → Prop} (hl : args.length = 2) (h : VFun prog G 9 s_sync_atomic_Int64_Store r_sync_atomic_Int64_Store args H K Kp) : Con prog G 23 args H K Kp := by
  subst_vars
  exact con_of_vc (fn := Tryd.f23) (sc := s_sync_atomic_Int64_Store) (rs := r_sync_atomic_Int64_Store) rfl Tryd.func23 rfl (by rw [hl]; exact chk_sync_atomic_Int64_Store) (by rw [hl]; exact h)

-- 37 sync/atomic.StoreInt64: no body
/- (*sync/atomic.Int64).Load; loops: []; slots [(x, 0), (x, 1)] -/
def s_sync_atomic_Int64_Load : SCode :=
 (.seq (.reg false [] (.w 0 ⟨(some 2), none, .mv (.c (.int .i64 0))⟩
  .done) (some [0]))
 (.seq .bad /- op 3 at type.go:114 -/
 .ret))
def r_sync_atomic_Int64_Load : List RS := [.t 2]
theorem chk_sync_atomic_Int64_Load : (chkC prog (max Tryd.f48.ntmps 1) s_sync_atomic_Int64_Load (Tryd.f48.body.getD .skip) && chkRS prog r_sync_atomic_Int64_Load Tryd.f48.results.toList) = true := by kernel_rfl
theorem mk_sync_atomic_Int64_Load {G : Glob} {args : List SV} {H : List SO} {K Kp : SV → List SO → Prop} (hl : args.length = 1) (h : VFun prog G 7 s_sync_atomic_Int64_Load r_sync_atomic_Int64_Load args H K Kp) : Con prog G 48 args H K Kp := by
  subst_vars
  exact con_of_vc (fn := Tryd.f48) (sc := s_sync_atomic_Int64_Load) (rs := r_sync_atomic_Int64_Load) rfl Tryd.func48 rfl (by rw [hl]; exact chk_sync_atomic_Int64_Load) (by rw [hl]; exact h)

/- (*sync/atomic.Int64).Add; loops: []; slots [(x, 0), (delta, 1), (x, 2), (delta, 3), (new, 4)] -/
def s_sync_atomic_Int64_Add : SCode :=
 (.seq (.reg false [] (.w 0 ⟨(some 4), none, .mv (.c (.int .i64 0))⟩
  .done) (some [0, 1]))
 (.seq .bad /- op 4 at type.go:128 -/
 .ret))
def r_sync_atomic_Int64_Add : List RS := [.t 4]
theorem chk_sync_atomic_Int64_Add : (chkC prog (max Tryd.f58.ntmps 2) s_sync_atomic_Int64_Add (Tryd.f58.body.getD .skip) && chkRS prog r_sync_atomic_Int64_Add Tryd.f58.results.toList) = true := by kernel_rfl
theorem mk_sync_atomic_Int64_Add {G : Glob} {args : List SV} {H : List SO} {K Kp : SV → List SO → Prop} (hl : args.length = 2) (h : VFun prog G 10 s_sync_atomic_Int64_Add r_sync_atomic_Int64_Add args H K Kp) : Con prog G 58 args H K Kp := by
  subst_vars
  exact con_of_vc (fn := Tryd.f58) (sc := s_sync_atomic_Int64_Add) (rs := r_sync_atomic_Int64_Add) rfl Tryd.func58 rfl (by rw [hl]; exact chk_sync_atomic_Int64_Add) (by rw [hl]; exact h)

-- 62 sync/atomic.LoadInt64: no body
-- 75 sync/atomic.AddInt64: no body
/- internal/stringslite.HasPrefix; loops: []; slots [(s, 0), (prefix, 1), (s, 2), (prefix, 3)] -/
def s_internal_stringslite_HasPrefix : SCode :=
 (.seq (.reg false [] (.w 0 ⟨(some 4), none, .mv (.c (.bool false))⟩
  .done) (some [0, 1]))
 (.seq (.reg false [] (.w 0 ⟨(some 5), none, .mv (.t 0)⟩
  (.w 1 ⟨(some 6), none, .len false (.t 5)⟩
  (.w 2 ⟨(some 7), none, .mv (.t 1)⟩
  (.w 3 ⟨(some 8), none, .len false (.t 7)⟩
  (.w 4 ⟨(some 9), none, .bin .geq .i (.t 6) (.t 8)⟩
  (.w 5 ⟨(some 10), none, .mv (.t 9)⟩
  (.w 6 ⟨(some 11), (some (10, true)), .mv (.t 0)⟩
  (.w 7 ⟨(some 12), (some (10, true)), .mv (.t 1)⟩
  (.w 8 ⟨(some 13), (some (10, true)), .len false (.t 12)⟩
  (.w 9 ⟨(some 14), (some (10, true)), .sub (.t 11) none (some (.t 13))⟩
  (.w 10 ⟨(some 15), (some (10, true)), .mv (.t 1)⟩
  (.w 11 ⟨(some 16), (some (10, true)), .bin .eql .s (.t 14) (.t 15)⟩
  (.w 12 ⟨(some 17), none, .pick (.t 10) (.t 16) (.c (.bool false))⟩
  (.w 13 ⟨(some 4), none, .mv (.t 17)⟩
  .done)))))))))))))) (some [4]))
 .ret))
def r_internal_stringslite_HasPrefix : List RS := [.t 4]
theorem chk_internal_stringslite_HasPrefix : (chkC prog (max Tryd.f53.ntmps 2) s_internal_stringslite_HasPrefix (Tryd.f53.body.getD .skip) && chkRS prog r_internal_stringslite_HasPrefix Tryd.f53.results.toList) = true := by kernel_rfl
theorem mk_internal_stringslite_HasPrefix {G : Glob} {args : List SV} {H : List SO} {K Kp : SV → List SO → Prop} (hl : args.length = 2) (h : VFun prog G 18 s_internal_stringslite_HasPrefix r_internal_stringslite_HasPrefix args H K Kp) : Con prog G 53 args H K Kp := by
  subst_vars
  exact con_of_vc (fn := Tryd.f53) (sc := s_internal_stringslite_HasPrefix) (rs := r_internal_stringslite_HasPrefix) rfl Tryd.func53 rfl (by rw [hl]; exact chk_internal_stringslite_HasPrefix) (by rw [hl]; exact h)

-- 67 internal/abi.NoEscape: no body
-- 76 internal/bytealg.MakeNoZero: no body
/- internal/bytealg.Cutover; loops: []; slots [(n, 0), (n, 1)] -/
def s_internal_bytealg_Cutover : SCode :=
 (.seq (.reg false [] (.w 0 ⟨(some 2), none, .mv (.c (.int .i64 0))⟩
  .done) (some [0]))
 (.seq (.reg false [] (.w 0 ⟨(some 3), none, .mv (.t 0)⟩
  (.w 1 ⟨(some 4), none, .bin .add .i (.t 3) (.c (.int .i64 16))⟩
  (.w 2 ⟨(some 5), none, .bin .quo .i (.t 4) (.c (.int .i64 8))⟩
  (.w 3 ⟨(some 2), none, .mv (.t 5)⟩
  .done)))) (some [2]))
 .ret))
def r_internal_bytealg_Cutover : List RS := [.t 2]
theorem chk_internal_bytealg_Cutover : (chkC prog (max Tryd.f89.ntmps 1) s_internal_bytealg_Cutover (Tryd.f89.body.getD .skip) && chkRS prog r_internal_bytealg_Cutover Tryd.f89.results.toList) = true := by kernel_rfl
theorem mk_internal_bytealg_Cutover {G : Glob} {args : List SV} {H : List SO} {K Kp : SV → List SO → Prop} (hl : args.length = 1) (h : VFun prog G 6 s_internal_bytealg_Cutover r_internal_bytealg_Cutover args H K Kp) : Con prog G 89 args H K Kp := by
  subst_vars
  exact con_of_vc (fn := Tryd.f89) (sc := s_internal_bytealg_Cutover) (rs := r_internal_bytealg_Cutover) rfl Tryd.func89 rfl (by rw [hl]; exact chk_internal_bytealg_Cutover) (by rw [hl]; exact h)

-- 90 internal/bytealg.IndexString: no body
/- internal/stringslite.IndexByte; loops: []; slots [(s, 0), (c, 1), (s, 2), (c, 3)] -/
def s_internal_stringslite_IndexByte : SCode :=
 (.seq (.reg false [] (.w 0 ⟨(some 4), none, .mv (.c (.int .i64 0))⟩
  .done) (some [0, 1]))
 (.seq .bad /- op 2 at strings.go:25 -/
 .ret))
def r_internal_stringslite_IndexByte : List RS := [.t 4]
theorem chk_internal_stringslite_IndexByte : (chkC prog (max Tryd.f91.ntmps 2) s_internal_stringslite_IndexByte (Tryd.f91.body.getD .skip) && chkRS prog r_internal_stringslite_IndexByte Tryd.f91.results.toList) = true := by kernel_rfl
theorem mk_internal_stringslite_IndexByte {G : Glob} {args : List SV} {H : List SO} {K Kp : SV → List SO → Prop} (hl : args.length = 2) (h : VFun prog G 8 s_internal_stringslite_IndexByte r_internal_stringslite_IndexByte args H K Kp) : Con prog G 91 args H K Kp := by
  subst_vars
  exact con_of_vc (fn := Tryd.f91) (sc := s_internal_stringslite_IndexByte) (rs := r_internal_stringslite_IndexByte) rfl Tryd.func91 rfl (by rw [hl]; exact chk_internal_stringslite_IndexByte) (by rw [hl]; exact h)

-- 92 internal/bytealg.IndexByteString: no body
-- 105 (*internal/abi.Type).Align: no body
-- 106 (internal/runtime/maps.unhashableTypeError).Error: no body
-- 107 (internal/runtime/maps.unhashableTypeError).RuntimeError: no body
-- 110 (internal/abi.Kind).String: no body
/- unicode/utf8.DecodeRuneInString; loops: []; slots [(s, 0), (s, 1), (r, 2), (size, 3)] -/
def s_unicode_utf8_DecodeRuneInString : SCode :=
 (.seq (.reg false [] (.w 0 ⟨(some 2), none, .mv (.c (.int .i32 0))⟩
  (.w 1 ⟨(some 3), none, .mv (.c (.int .i64 0))⟩
  .done)) (some [0]))
 (.seq (.seq (.reg false [] (.w 0 ⟨(some 4), none, .mv (.t 0)⟩
  (.w 1 ⟨(some 5), none, .bin .neq .s (.t 4) (.c (.str []))⟩
  (.w 2 ⟨(some 6), none, .mv (.t 5)⟩
  (.w 3 ⟨(some 7), (some (6, true)), .mv (.t 0)⟩
  (.w 4 ⟨(some 8), (some (6, true)), .idx (.t 7) (.c (.int .i64 0))⟩
  (.w 5 ⟨(some 9), (some (6, true)), .bin .lss .i (.t 8) (.c (.int .u8 128))⟩
  (.w 6 ⟨(some 10), none, .pick (.t 6) (.t 9) (.c (.bool false))⟩
  .done))))))) (some [0, 10]))
 (.cond (.t 10) (.seq (.reg false [] (.w 0 ⟨(some 11), none, .mv (.t 0)⟩
  (.w 1 ⟨(some 12), none, .idx (.t 11) (.c (.int .i64 0))⟩
  (.w 2 ⟨(some 13), none, .conv .i32 (.t 12)⟩
  (.w 3 ⟨(some 2), none, .mv (.t 13)⟩
  (.w 4 ⟨(some 3), none, .mv (.c (.int .i64 1))⟩
  .done))))) (some [2, 3]))
 .ret)
 (.reg false [] (.w 0 ⟨(some 15), none, .mv (.t 0)⟩
  (.l 1 ⟨(some 16), none, .call 84 [(.t 15)]⟩ []
  (.w 2 ⟨(some 14), none, .mv (.t 16)⟩
  (.w 3 ⟨(some 17), none, .ext (.t 14) 0⟩
  (.w 4 ⟨(some 18), none, .ext (.t 14) 1⟩
  (.w 5 ⟨(some 2), none, .mv (.t 17)⟩
  (.w 6 ⟨(some 3), none, .mv (.t 18)⟩
  .done))))) .stop)) (some [2, 3]))))
 .ret))
def r_unicode_utf8_DecodeRuneInString : List RS := [.t 2, .t 3]
theorem chk_unicode_utf8_DecodeRuneInString : (chkC prog (max Tryd.f80.ntmps 1) s_unicode_utf8_DecodeRuneInString (Tryd.f80.body.getD .skip) && chkRS prog r_unicode_utf8_DecodeRuneInString Tryd.f80.results.toList) = true := by kernel_rfl
theorem mk_unicode_utf8_DecodeRuneInString {G : Glob} {args : List SV} {H : List SO} {K Kp : SV → List SO → Prop} (hl : args.length = 1) (h : VFun prog G 19 s_unicode_utf8_DecodeRuneInString r_unicode_utf8_DecodeRuneInString args H K Kp) : Con prog G 80 args H K Kp := by
  subst_vars
  exact con_of_vc (fn := Tryd.f80) (sc := s_unicode_utf8_DecodeRuneInString) (rs := r_unicode_utf8_DecodeRuneInString) rfl Tryd.func80 rfl (by rw [hl]; exact chk_unicode_utf8_DecodeRuneInString) (by rw [hl]; exact h)

/- unicode/utf8.DecodeLastRuneInString; loops: [[0, 4, 5, 6]]; slots [(s, 0), (s, 1), (r, 2), (size, 3), (end, 4), (start, 5), (lim, 6)] -/
def s_unicode_utf8_DecodeLastRuneInString : SCode :=
 (.seq (.reg false [] (.w 0 ⟨(some 2), none, .mv (.c (.int .i32 0))⟩
  (.w 1 ⟨(some 3), none, .mv (.c (.int .i64 0))⟩
  .done)) (some [0]))
 (.seq (.reg false [] (.w 0 ⟨(some 7), none, .mv (.t 0)⟩
  (.w 1 ⟨(some 8), none, .len false (.t 7)⟩
  (.w 2 ⟨(some 4), none, .mv (.t 8)⟩
  .done))) (some [0, 4]))
 (.seq (.seq (.reg false [] (.w 0 ⟨(some 9), none, .mv (.t 4)⟩
  (.w 1 ⟨(some 10), none, .bin .eql .i (.t 9) (.c (.int .i64 0))⟩
  .done)) (some [0, 4, 10]))
 (.cond (.t 10) (.seq (.reg false [] (.w 0 ⟨(some 2), none, .mv (.c (.int .i32 65533))⟩
  (.w 1 ⟨(some 3), none, .mv (.c (.int .i64 0))⟩
  .done)) (some [2, 3]))
 .ret)
 .skip))
 (.seq (.reg false [] (.w 0 ⟨(some 11), none, .mv (.t 4)⟩
  (.w 1 ⟨(some 12), none, .bin .sub .i (.t 11) (.c (.int .i64 1))⟩
  (.w 2 ⟨(some 5), none, .mv (.t 12)⟩
  .done))) (some [0, 4, 5]))
 (.seq (.reg false [] (.w 0 ⟨(some 13), none, .mv (.t 0)⟩
  (.w 1 ⟨(some 14), none, .mv (.t 5)⟩
  (.w 2 ⟨(some 15), none, .idx (.t 13) (.t 14)⟩
  (.w 3 ⟨(some 16), none, .conv .i32 (.t 15)⟩
  (.w 4 ⟨(some 2), none, .mv (.t 16)⟩
  .done))))) (some [0, 2, 4, 5]))
 (.seq (.seq (.reg false [] (.w 0 ⟨(some 17), none, .mv (.t 2)⟩
  (.w 1 ⟨(some 18), none, .bin .lss .i (.t 17) (.c (.int .i32 128))⟩
  .done)) (some [0, 2, 4, 5, 18]))
 (.cond (.t 18) (.seq (.reg false [] (.w 0 ⟨(some 19), none, .mv (.t 2)⟩
  (.w 1 ⟨(some 2), none, .mv (.t 19)⟩
  (.w 2 ⟨(some 3), none, .mv (.c (.int .i64 1))⟩
  .done))) (some [2, 3]))
 .ret)
 .skip))
 (.seq (.reg false [] (.w 0 ⟨(some 20), none, .mv (.t 4)⟩
  (.w 1 ⟨(some 21), none, .bin .sub .i (.t 20) (.c (.int .i64 4))⟩
  (.w 2 ⟨(some 22), none, .mm true [(.t 21), (.c (.int .i64 0))]⟩
  (.w 3 ⟨(some 6), none, .mv (.t 22)⟩
  .done)))) (some [0, 4, 5, 6]))
 (.seq (.seq (.reg false [] (.w 0 ⟨(some 23), none, .mv (.t 5)⟩
  (.w 1 ⟨(some 24), none, .bin .sub .i (.t 23) (.c (.int .i64 1))⟩
  (.w 2 ⟨(some 5), none, .mv (.t 24)⟩
  .done))) (some [0, 4, 5, 6]))
 (.block 0 (.loop (.seq (.seq (.reg false [] (.w 0 ⟨(some 25), none, .mv (.t 5)⟩
  (.w 1 ⟨(some 26), none, .mv (.t 6)⟩
  (.w 2 ⟨(some 27), none, .bin .geq .i (.t 25) (.t 26)⟩
  .done))) (some [0, 4, 5, 6, 27]))
 (.cond (.t 27) .skip
 (.exit 0)))
 (.seq (.block 1 (.seq (.reg false [] (.w 0 ⟨(some 30), none, .mv (.t 0)⟩
  (.w 1 ⟨(some 31), none, .mv (.t 5)⟩
  (.w 2 ⟨(some 32), none, .idx (.t 30) (.t 31)⟩
  (.l 3 ⟨(some 33), none, .call 86 [(.t 32)]⟩ []
  .done .stop)))) (some [0, 4, 5, 6, 33]))
 (.cond (.t 33) (.exit 0)
 .skip)))
 (.reg false [] (.w 0 ⟨(some 28), none, .mv (.t 5)⟩
  (.w 1 ⟨(some 29), none, .bin .sub .i (.t 28) (.c (.int .i64 1))⟩
  (.w 2 ⟨(some 5), none, .mv (.t 29)⟩
  .done))) (some [0, 4, 5, 6])))))))
 (.seq (.seq (.reg false [] (.w 0 ⟨(some 34), none, .mv (.t 5)⟩
  (.w 1 ⟨(some 35), none, .bin .lss .i (.t 34) (.c (.int .i64 0))⟩
  .done)) (some [0, 4, 5, 35]))
 (.cond (.t 35) (.reg false [] (.w 0 ⟨(some 5), none, .mv (.c (.int .i64 0))⟩
  .done) (some [0, 4, 5]))
 .skip))
 (.seq (.reg false [] (.w 0 ⟨(some 37), none, .mv (.t 0)⟩
  (.w 1 ⟨(some 38), none, .mv (.t 5)⟩
  (.w 2 ⟨(some 39), none, .mv (.t 4)⟩
  (.w 3 ⟨(some 40), none, .sub (.t 37) (some (.t 38)) (some (.t 39))⟩
  (.l 4 ⟨(some 41), none, .call 80 [(.t 40)]⟩ []
  (.w 5 ⟨(some 36), none, .mv (.t 41)⟩
  (.w 6 ⟨(some 42), none, .ext (.t 36) 0⟩
  (.w 7 ⟨(some 43), none, .ext (.t 36) 1⟩
  (.w 8 ⟨(some 2), none, .mv (.t 42)⟩
  (.w 9 ⟨(some 3), none, .mv (.t 43)⟩
  .done))))) .stop))))) (some [2, 3, 4, 5]))
 (.seq (.seq (.reg false [] (.w 0 ⟨(some 44), none, .mv (.t 5)⟩
  (.w 1 ⟨(some 45), none, .mv (.t 3)⟩
  (.w 2 ⟨(some 46), none, .bin .add .i (.t 44) (.t 45)⟩
  (.w 3 ⟨(some 47), none, .mv (.t 4)⟩
  (.w 4 ⟨(some 48), none, .bin .neq .i (.t 46) (.t 47)⟩
  .done))))) (some [2, 3, 48]))
 (.cond (.t 48) (.seq (.reg false [] (.w 0 ⟨(some 2), none, .mv (.c (.int .i32 65533))⟩
  (.w 1 ⟨(some 3), none, .mv (.c (.int .i64 1))⟩
  .done)) (some [2, 3]))
 .ret)
 .skip))
 (.seq (.reg false [] (.w 0 ⟨(some 49), none, .mv (.t 2)⟩
  (.w 1 ⟨(some 50), none, .mv (.t 3)⟩
  (.w 2 ⟨(some 2), none, .mv (.t 49)⟩
  (.w 3 ⟨(some 3), none, .mv (.t 50)⟩
  .done)))) (some [2, 3]))
 .ret))))))))))))
def r_unicode_utf8_DecodeLastRuneInString : List RS := [.t 2, .t 3]
theorem chk_unicode_utf8_DecodeLastRuneInString : (chkC prog (max Tryd.f82.ntmps 1) s_unicode_utf8_DecodeLastRuneInString (Tryd.f82.body.getD .skip) && chkRS prog r_unicode_utf8_DecodeLastRuneInString Tryd.f82.results.toList) = true := by kernel_rfl
theorem mk_unicode_utf8_DecodeLastRuneInString {G : Glob} {args : List SV} {H : List SO} {K Kp : SV → List SO → Prop} (hl : args.length = 1) (h : VFun prog G 51 s_unicode_utf8_DecodeLastRuneInString r_unicode_utf8_DecodeLastRuneInString args H K Kp) : Con prog G 82 args H K Kp := by
  subst_vars
  exact con_of_vc (fn := Tryd.f82) (sc := s_unicode_utf8_DecodeLastRuneInString) (rs := r_unicode_utf8_DecodeLastRuneInString) rfl Tryd.func82 rfl (by rw [hl]; exact chk_unicode_utf8_DecodeLastRuneInString) (by rw [hl]; exact h)

/- unicode/utf8.decodeRuneInStringSlow; loops: []; slots [(s, 0), (s, 1), (n, 4), (s0, 5), (x, 6), (mask, 7), (sz, 8), (accept, 9), (s1, 10), (s2, 11), (s3, 12)] -/
def s_unicode_utf8_decodeRuneInStringSlow : SCode :=
 (.seq (.reg false [] (.w 0 ⟨(some 2), none, .mv (.c (.int .i32 0))⟩
  (.w 1 ⟨(some 3), none, .mv (.c (.int .i64 0))⟩
  .done)) (some [0]))
 (.seq (.reg false [] (.w 0 ⟨(some 13), none, .mv (.t 0)⟩
  (.w 1 ⟨(some 14), none, .len false (.t 13)⟩
  (.w 2 ⟨(some 4), none, .mv (.t 14)⟩
  .done))) (some [0, 4]))
 (.seq (.seq (.reg false [] (.w 0 ⟨(some 15), none, .mv (.t 4)⟩
  (.w 1 ⟨(some 16), none, .bin .lss .i (.t 15) (.c (.int .i64 1))⟩
  .done)) (some [0, 4, 16]))
 (.cond (.t 16) (.seq (.reg false [] (.w 0 ⟨(some 2), none, .mv (.c (.int .i32 65533))⟩
  (.w 1 ⟨(some 3), none, .mv (.c (.int .i64 0))⟩
  .done)) (some [2, 3]))
 .ret)
 .skip))
 (.seq (.reg false [] (.w 0 ⟨(some 17), none, .mv (.t 0)⟩
  (.w 1 ⟨(some 18), none, .idx (.t 17) (.c (.int .i64 0))⟩
  (.w 2 ⟨(some 5), none, .mv (.t 18)⟩
  .done))) (some [0, 4, 5]))
 (.seq (.reg false [] (.w 0 ⟨(some 19), none, .mv (.t 5)⟩
  (.w 1 ⟨(some 20), none, .iaa (.c (.gp 2 0)) (.t 19) 1 256⟩
  (.rd 2 ⟨(some 21), none, .ld (.t 20) 1 false⟩
  (.w 3 ⟨(some 6), none, .mv (.t 21)⟩
  .done)))) (some [0, 4, 5, 6]))
 (.seq (.seq (.reg false [] (.w 0 ⟨(some 22), none, .mv (.t 6)⟩
  (.w 1 ⟨(some 23), none, .bin .geq .i (.t 22) (.c (.int .u8 240))⟩
  .done)) (some [0, 4, 5, 6, 23]))
 (.cond (.t 23) (.seq (.reg false [] (.w 0 ⟨(some 24), none, .mv (.t 6)⟩
  (.w 1 ⟨(some 25), none, .conv .i32 (.t 24)⟩
  (.w 2 ⟨(some 26), none, .bin .shl .i (.t 25) (.c (.int .u64 31))⟩
  (.w 3 ⟨(some 27), none, .bin .shr .i (.t 26) (.c (.int .u64 31))⟩
  (.w 4 ⟨(some 7), none, .mv (.t 27)⟩
  .done))))) (some [0, 7]))
 (.seq (.reg false [] (.w 0 ⟨(some 28), none, .mv (.t 0)⟩
  (.w 1 ⟨(some 29), none, .idx (.t 28) (.c (.int .i64 0))⟩
  (.w 2 ⟨(some 30), none, .conv .i32 (.t 29)⟩
  (.w 3 ⟨(some 31), none, .mv (.t 7)⟩
  (.w 4 ⟨(some 32), none, .bin .andNot .i (.t 30) (.t 31)⟩
  (.w 5 ⟨(some 33), none, .mv (.t 7)⟩
  (.w 6 ⟨(some 34), none, .bin .and .i (.c (.int .i32 65533)) (.t 33)⟩
  (.w 7 ⟨(some 35), none, .bin .or .i (.t 32) (.t 34)⟩
  (.w 8 ⟨(some 2), none, .mv (.t 35)⟩
  (.w 9 ⟨(some 3), none, .mv (.c (.int .i64 1))⟩
  .done)))))))))) (some [2, 3]))
 .ret))
 .skip))
 (.seq (.reg false [] (.w 0 ⟨(some 36), none, .mv (.t 6)⟩
  (.w 1 ⟨(some 37), none, .bin .and .i (.t 36) (.c (.int .u8 7))⟩
  (.w 2 ⟨(some 38), none, .conv .i64 (.t 37)⟩
  (.w 3 ⟨(some 8), none, .mv (.t 38)⟩
  .done)))) (some [0, 4, 5, 6, 8]))
 (.seq (.reg false [] (.w 0 ⟨(some 39), none, .mv (.t 6)⟩
  (.w 1 ⟨(some 40), none, .bin .shr .i (.t 39) (.c (.int .u64 4))⟩
  (.w 2 ⟨(some 41), none, .iaa (.c (.gp 3 0)) (.t 40) 2 16⟩
  (.rd 3 ⟨(some 42), none, .ld (.t 41) 2 true⟩
  (.l 4 ⟨(some 9), none, .alloc [(.int .u8 0), (.int .u8 0)]⟩ []
  (.l 5 ⟨none, none, .st 2 (.t 9) (.t 42)⟩ []
  .done .stop) .stop))))) (some [0, 4, 5, 8, 9]))
 (.seq (.seq (.reg false [] (.w 0 ⟨(some 43), none, .mv (.t 4)⟩
  (.w 1 ⟨(some 44), none, .mv (.t 8)⟩
  (.w 2 ⟨(some 45), none, .bin .lss .i (.t 43) (.t 44)⟩
  .done))) (some [0, 5, 8, 9, 45]))
 (.cond (.t 45) (.seq (.reg false [] (.w 0 ⟨(some 2), none, .mv (.c (.int .i32 65533))⟩
  (.w 1 ⟨(some 3), none, .mv (.c (.int .i64 1))⟩
  .done)) (some [2, 3]))
 .ret)
 .skip))
 (.seq (.reg false [] (.w 0 ⟨(some 46), none, .mv (.t 0)⟩
  (.w 1 ⟨(some 47), none, .idx (.t 46) (.c (.int .i64 1))⟩
  (.w 2 ⟨(some 10), none, .mv (.t 47)⟩
  .done))) (some [0, 5, 8, 9, 10]))
 (.seq (.seq (.reg false [] (.w 0 ⟨(some 48), none, .mv (.t 10)⟩
  (.w 1 ⟨(some 49), none, .fa (.t 9) 0⟩
  (.rd 2 ⟨(some 50), none, .ld (.t 49) 1 false⟩
  (.w 3 ⟨(some 51), none, .bin .lss .i (.t 48) (.t 50)⟩
  (.w 4 ⟨(some 52), none, .mv (.t 51)⟩
  (.w 5 ⟨(some 53), (some (52, false)), .fa (.t 9) 1⟩
  (.rd 6 ⟨(some 54), (some (52, false)), .ld (.t 53) 1 false⟩
  (.w 7 ⟨(some 55), (some (52, false)), .mv (.t 10)⟩
  (.w 8 ⟨(some 56), (some (52, false)), .bin .lss .i (.t 54) (.t 55)⟩
  (.w 9 ⟨(some 57), none, .pick (.t 52) (.c (.bool true)) (.t 56)⟩
  .done)))))))))) (some [0, 5, 8, 10, 57]))
 (.cond (.t 57) (.seq (.reg false [] (.w 0 ⟨(some 2), none, .mv (.c (.int .i32 65533))⟩
  (.w 1 ⟨(some 3), none, .mv (.c (.int .i64 1))⟩
  .done)) (some [2, 3]))
 .ret)
 .skip))
 (.seq (.seq (.reg false [] (.w 0 ⟨(some 58), none, .mv (.t 8)⟩
  (.w 1 ⟨(some 59), none, .bin .leq .i (.t 58) (.c (.int .i64 2))⟩
  .done)) (some [0, 5, 8, 10, 59]))
 (.cond (.t 59) (.seq (.reg false [] (.w 0 ⟨(some 60), none, .mv (.t 5)⟩
  (.w 1 ⟨(some 61), none, .bin .and .i (.t 60) (.c (.int .u8 31))⟩
  (.w 2 ⟨(some 62), none, .conv .i32 (.t 61)⟩
  (.w 3 ⟨(some 63), none, .bin .shl .i (.t 62) (.c (.int .u64 6))⟩
  (.w 4 ⟨(some 64), none, .mv (.t 10)⟩
  (.w 5 ⟨(some 65), none, .bin .and .i (.t 64) (.c (.int .u8 63))⟩
  (.w 6 ⟨(some 66), none, .conv .i32 (.t 65)⟩
  (.w 7 ⟨(some 67), none, .bin .or .i (.t 63) (.t 66)⟩
  (.w 8 ⟨(some 2), none, .mv (.t 67)⟩
  (.w 9 ⟨(some 3), none, .mv (.c (.int .i64 2))⟩
  .done)))))))))) (some [2, 3]))
 .ret)
 .skip))
 (.seq (.reg false [] (.w 0 ⟨(some 68), none, .mv (.t 0)⟩
  (.w 1 ⟨(some 69), none, .idx (.t 68) (.c (.int .i64 2))⟩
  (.w 2 ⟨(some 11), none, .mv (.t 69)⟩
  .done))) (some [0, 5, 8, 10, 11]))
 (.seq (.seq (.reg false [] (.w 0 ⟨(some 70), none, .mv (.t 11)⟩
  (.w 1 ⟨(some 71), none, .bin .lss .i (.t 70) (.c (.int .u8 128))⟩
  (.w 2 ⟨(some 72), none, .mv (.t 71)⟩
  (.w 3 ⟨(some 73), (some (72, false)), .mv (.t 11)⟩
  (.w 4 ⟨(some 74), (some (72, false)), .bin .lss .i (.c (.int .u8 191)) (.t 73)⟩
  (.w 5 ⟨(some 75), none, .pick (.t 72) (.c (.bool true)) (.t 74)⟩
  .done)))))) (some [0, 5, 8, 10, 11, 75]))
 (.cond (.t 75) (.seq (.reg false [] (.w 0 ⟨(some 2), none, .mv (.c (.int .i32 65533))⟩
  (.w 1 ⟨(some 3), none, .mv (.c (.int .i64 1))⟩
  .done)) (some [2, 3]))
 .ret)
 .skip))
 (.seq (.seq (.reg false [] (.w 0 ⟨(some 76), none, .mv (.t 8)⟩
  (.w 1 ⟨(some 77), none, .bin .leq .i (.t 76) (.c (.int .i64 3))⟩
  .done)) (some [0, 5, 10, 11, 77]))
 (.cond (.t 77) (.seq (.reg false [] (.w 0 ⟨(some 78), none, .mv (.t 5)⟩
  (.w 1 ⟨(some 79), none, .bin .and .i (.t 78) (.c (.int .u8 15))⟩
  (.w 2 ⟨(some 80), none, .conv .i32 (.t 79)⟩
  (.w 3 ⟨(some 81), none, .bin .shl .i (.t 80) (.c (.int .u64 12))⟩
  (.w 4 ⟨(some 82), none, .mv (.t 10)⟩
  (.w 5 ⟨(some 83), none, .bin .and .i (.t 82) (.c (.int .u8 63))⟩
  (.w 6 ⟨(some 84), none, .conv .i32 (.t 83)⟩
  (.w 7 ⟨(some 85), none, .bin .shl .i (.t 84) (.c (.int .u64 6))⟩
  (.w 8 ⟨(some 86), none, .bin .or .i (.t 81) (.t 85)⟩
  (.w 9 ⟨(some 87), none, .mv (.t 11)⟩
  (.w 10 ⟨(some 88), none, .bin .and .i (.t 87) (.c (.int .u8 63))⟩
  (.w 11 ⟨(some 89), none, .conv .i32 (.t 88)⟩
  (.w 12 ⟨(some 90), none, .bin .or .i (.t 86) (.t 89)⟩
  (.w 13 ⟨(some 2), none, .mv (.t 90)⟩
  (.w 14 ⟨(some 3), none, .mv (.c (.int .i64 3))⟩
  .done))))))))))))))) (some [2, 3]))
 .ret)
 .skip))
 (.seq (.reg false [] (.w 0 ⟨(some 91), none, .mv (.t 0)⟩
  (.w 1 ⟨(some 92), none, .idx (.t 91) (.c (.int .i64 3))⟩
  (.w 2 ⟨(some 12), none, .mv (.t 92)⟩
  .done))) (some [5, 10, 11, 12]))
 (.seq (.seq (.reg false [] (.w 0 ⟨(some 93), none, .mv (.t 12)⟩
  (.w 1 ⟨(some 94), none, .bin .lss .i (.t 93) (.c (.int .u8 128))⟩
  (.w 2 ⟨(some 95), none, .mv (.t 94)⟩
  (.w 3 ⟨(some 96), (some (95, false)), .mv (.t 12)⟩
  (.w 4 ⟨(some 97), (some (95, false)), .bin .lss .i (.c (.int .u8 191)) (.t 96)⟩
  (.w 5 ⟨(some 98), none, .pick (.t 95) (.c (.bool true)) (.t 97)⟩
  .done)))))) (some [5, 10, 11, 12, 98]))
 (.cond (.t 98) (.seq (.reg false [] (.w 0 ⟨(some 2), none, .mv (.c (.int .i32 65533))⟩
  (.w 1 ⟨(some 3), none, .mv (.c (.int .i64 1))⟩
  .done)) (some [2, 3]))
 .ret)
 .skip))
 (.seq (.reg false [] (.w 0 ⟨(some 99), none, .mv (.t 5)⟩
  (.w 1 ⟨(some 100), none, .bin .and .i (.t 99) (.c (.int .u8 7))⟩
  (.w 2 ⟨(some 101), none, .conv .i32 (.t 100)⟩
  (.w 3 ⟨(some 102), none, .bin .shl .i (.t 101) (.c (.int .u64 18))⟩
  (.w 4 ⟨(some 103), none, .mv (.t 10)⟩
  (.w 5 ⟨(some 104), none, .bin .and .i (.t 103) (.c (.int .u8 63))⟩
  (.w 6 ⟨(some 105), none, .conv .i32 (.t 104)⟩
  (.w 7 ⟨(some 106), none, .bin .shl .i (.t 105) (.c (.int .u64 12))⟩
  (.w 8 ⟨(some 107), none, .bin .or .i (.t 102) (.t 106)⟩
  (.w 9 ⟨(some 108), none, .mv (.t 11)⟩
  (.w 10 ⟨(some 109), none, .bin .and .i (.t 108) (.c (.int .u8 63))⟩
  (.w 11 ⟨(some 110), none, .conv .i32 (.t 109)⟩
  (.w 12 ⟨(some 111), none, .bin .shl .i (.t 110) (.c (.int .u64 6))⟩
  (.w 13 ⟨(some 112), none, .bin .or .i (.t 107) (.t 111)⟩
  (.w 14 ⟨(some 113), none, .mv (.t 12)⟩
  (.w 15 ⟨(some 114), none, .bin .and .i (.t 113) (.c (.int .u8 63))⟩
  (.w 16 ⟨(some 115), none, .conv .i32 (.t 114)⟩
  (.w 17 ⟨(some 116), none, .bin .or .i (.t 112) (.t 115)⟩
  (.w 18 ⟨(some 2), none, .mv (.t 116)⟩
  (.w 19 ⟨(some 3), none, .mv (.c (.int .i64 4))⟩
  .done)))))))))))))))))))) (some [2, 3]))
 .ret))))))))))))))))))
def r_unicode_utf8_decodeRuneInStringSlow : List RS := [.t 2, .t 3]
theorem chk_unicode_utf8_decodeRuneInStringSlow : (chkC prog (max Tryd.f84.ntmps 1) s_unicode_utf8_decodeRuneInStringSlow (Tryd.f84.body.getD .skip) && chkRS prog r_unicode_utf8_decodeRuneInStringSlow Tryd.f84.results.toList) = true := by kernel_rfl
theorem mk_unicode_utf8_decodeRuneInStringSlow {G : Glob} {args : List SV} {H : List SO} {K Kp : SV → List SO → Prop} (hl : args.length = 1) (h : VFun prog G 117 s_unicode_utf8_decodeRuneInStringSlow r_unicode_utf8_decodeRuneInStringSlow args H K Kp) : Con prog G 84 args H K Kp := by
  subst_vars
  exact con_of_vc (fn := Tryd.f84) (sc := s_unicode_utf8_decodeRuneInStringSlow) (rs := r_unicode_utf8_decodeRuneInStringSlow) rfl Tryd.func84 rfl (by rw [hl]; exact chk_unicode_utf8_decodeRuneInStringSlow) (by rw [hl]; exact h)

/- unicode/utf8.RuneStart; loops: []; slots [(b, 0), (b, 1)] -/
def s_unicode_utf8_RuneStart : SCode :=
 (.seq (.reg false [] (.w 0 ⟨(some 2), none, .mv (.c (.bool false))⟩
  .done) (some [0]))
 (.seq (.reg false [] (.w 0 ⟨(some 3), none, .mv (.t 0)⟩
  (.w 1 ⟨(some 4), none, .bin .and .i (.t 3) (.c (.int .u8 192))⟩
  (.w 2 ⟨(some 5), none, .bin .neq .i (.t 4) (.c (.int .u8 128))⟩
  (.w 3 ⟨(some 2), none, .mv (.t 5)⟩
  .done)))) (some [2]))
 .ret))
def r_unicode_utf8_RuneStart : List RS := [.t 2]
theorem chk_unicode_utf8_RuneStart : (chkC prog (max Tryd.f86.ntmps 1) s_unicode_utf8_RuneStart (Tryd.f86.body.getD .skip) && chkRS prog r_unicode_utf8_RuneStart Tryd.f86.results.toList) = true := by kernel_rfl
theorem mk_unicode_utf8_RuneStart {G : Glob} {args : List SV} {H : List SO} {K Kp : SV → List SO → Prop} (hl : args.length = 1) (h : VFun prog G 6 s_unicode_utf8_RuneStart r_unicode_utf8_RuneStart args H K Kp) : Con prog G 86 args H K Kp := by
  subst_vars
  exact con_of_vc (fn := Tryd.f86) (sc := s_unicode_utf8_RuneStart) (rs := r_unicode_utf8_RuneStart) rfl Tryd.func86 rfl (by rw [hl]; exact chk_unicode_utf8_RuneStart) (by rw [hl]; exact h)

/- unicode/utf8.ValidRune; loops: []; slots [(r, 0), (r, 1)] -/
def s_unicode_utf8_ValidRune : SCode :=
 (.seq (.reg false [] (.w 0 ⟨(some 2), none, .mv (.c (.bool false))⟩
  .done) (some [0]))
 (.seq (.block 0 (.seq (.reg false [] (.w 0 ⟨(some 4), none, .mv (.t 0)⟩
  (.w 1 ⟨(some 5), none, .bin .leq .i (.c (.int .i32 0)) (.t 4)⟩
  (.w 2 ⟨(some 6), none, .mv (.t 5)⟩
  (.w 3 ⟨(some 7), (some (6, true)), .mv (.t 0)⟩
  (.w 4 ⟨(some 8), (some (6, true)), .bin .lss .i (.t 7) (.c (.int .i32 55296))⟩
  (.w 5 ⟨(some 9), none, .pick (.t 6) (.t 8) (.c (.bool false))⟩
  (.w 6 ⟨(some 3), none, .mv (.t 9)⟩
  .done))))))) (some [0, 3]))
 (.cond (.t 3) (.seq (.reg false [] (.w 0 ⟨(some 2), none, .mv (.c (.bool true))⟩
  .done) (some [2]))
 .ret)
 (.seq (.reg false [] (.w 0 ⟨(some 11), none, .mv (.t 0)⟩
  (.w 1 ⟨(some 12), none, .bin .lss .i (.c (.int .i32 57343)) (.t 11)⟩
  (.w 2 ⟨(some 13), none, .mv (.t 12)⟩
  (.w 3 ⟨(some 14), (some (13, true)), .mv (.t 0)⟩
  (.w 4 ⟨(some 15), (some (13, true)), .bin .leq .i (.t 14) (.c (.int .i32 1114111))⟩
  (.w 5 ⟨(some 16), none, .pick (.t 13) (.t 15) (.c (.bool false))⟩
  (.w 6 ⟨(some 10), none, .mv (.t 16)⟩
  .done))))))) (some [10]))
 (.cond (.t 10) (.seq (.reg false [] (.w 0 ⟨(some 2), none, .mv (.c (.bool true))⟩
  .done) (some [2]))
 .ret)
 .skip)))))
 (.seq (.reg false [] (.w 0 ⟨(some 2), none, .mv (.c (.bool false))⟩
  .done) (some [2]))
 .ret)))
def r_unicode_utf8_ValidRune : List RS := [.t 2]
theorem chk_unicode_utf8_ValidRune : (chkC prog (max Tryd.f88.ntmps 1) s_unicode_utf8_ValidRune (Tryd.f88.body.getD .skip) && chkRS prog r_unicode_utf8_ValidRune Tryd.f88.results.toList) = true := by kernel_rfl
theorem mk_unicode_utf8_ValidRune {G : Glob} {args : List SV} {H : List SO} {K Kp : SV → List SO → Prop} (hl : args.length = 1) (h : VFun prog G 17 s_unicode_utf8_ValidRune r_unicode_utf8_ValidRune args H K Kp) : Con prog G 88 args H K Kp := by
  subst_vars
  exact con_of_vc (fn := Tryd.f88) (sc := s_unicode_utf8_ValidRune) (rs := r_unicode_utf8_ValidRune) rfl Tryd.func88 rfl (by rw [hl]; exact chk_unicode_utf8_ValidRune) (by rw [hl]; exact h)

end Go.V
