/- Symbolic code. -/
import Derived.Test.YtfdjmooifnmanaaDoorK
namespace Go.V
open Go.Proofs
/- headgate/headgatelaw06.JournalNone; loops: []; slots [(text, 0), (sectors, 1), (text, 2), (sectors, 3), (j, 5), (n, 6), (d, 7), (e, 8), (k, 9), (f, 10), (o, 11), (g, 12), (p, 13), (h, 14)] -/
def s_headgatelaw06_JournalNone : SCode :=
 (.seq (.reg false [] (.w 0 ⟨(some 4), none, .mv (.c (.bool false))⟩
  .done) (some [0, 1]))
 (.seq (.reg false [] (.w 0 ⟨(some 5), none, .mv (.c .nilp)⟩
  .done) (some [0, 1, 5]))
 (.seq (.seq (.reg false [] (.w 0 ⟨(some 15), none, .mv (.t 0)⟩
  (.w 1 ⟨(some 16), none, .len false (.t 15)⟩
  (.w 2 ⟨(some 17), none, .bin .gtr .i (.t 16) (.c (.int .i64 70000))⟩
  .done))) (some [0, 1, 5, 17]))
 (.cond (.t 17) (.seq (.reg false [] (.l 0 ⟨(some 18), none, .call 6 []⟩ []
  (.w 1 ⟨(some 4), none, .mv (.t 18)⟩
  .done) .stop) (some [4]))
 .ret)
 .skip))
 (.seq (.reg false [] (.w 0 ⟨(some 19), none, .mv (.t 1)⟩
  (.l 1 ⟨(some 20), none, .call 7 [(.t 19), (.c (.int .i64 100))]⟩ []
  (.w 2 ⟨(some 21), none, .bin .add .i (.c (.int .i64 8)) (.t 20)⟩
  (.w 3 ⟨(some 6), none, .mv (.t 21)⟩
  .done)) .stop)) (some [0, 5, 6]))
 (.seq (.reg false [] (.w 0 ⟨(some 23), none, .mv (.t 6)⟩
  (.l 1 ⟨(some 24), none, .call 8 [(.t 23)]⟩ []
  (.w 2 ⟨(some 22), none, .mv (.t 24)⟩
  (.w 3 ⟨(some 25), none, .ext (.t 22) 0⟩
  (.w 4 ⟨(some 26), none, .ext (.t 22) 1⟩
  (.w 5 ⟨(some 7), none, .mv (.t 25)⟩
  (.w 6 ⟨(some 8), none, .mv (.t 26)⟩
  .done))))) .stop)) (some [0, 5, 6, 7, 8]))
 (.seq (.reg false [] (.w 0 ⟨(some 28), none, .mv (.t 7)⟩
  (.w 1 ⟨(some 29), none, .mv (.t 6)⟩
  (.l 2 ⟨(some 30), none, .call 9 [(.t 28), (.c (.int .i64 0)), (.t 29)]⟩ []
  (.w 3 ⟨(some 27), none, .mv (.t 30)⟩
  (.w 4 ⟨(some 31), none, .ext (.t 27) 0⟩
  (.w 5 ⟨(some 32), none, .ext (.t 27) 1⟩
  (.w 6 ⟨(some 9), none, .mv (.t 31)⟩
  (.w 7 ⟨(some 10), none, .mv (.t 32)⟩
  .done))))) .stop))) (some [0, 5, 6, 8, 9, 10]))
 (.seq (.reg false [] (.w 0 ⟨(some 34), none, .mv (.t 6)⟩
  (.l 1 ⟨(some 35), none, .call 9 [(.c .nilp), (.c (.int .i64 0)), (.t 34)]⟩ []
  (.w 2 ⟨(some 33), none, .mv (.t 35)⟩
  (.w 3 ⟨(some 36), none, .ext (.t 33) 0⟩
  (.w 4 ⟨(some 37), none, .ext (.t 33) 1⟩
  (.w 5 ⟨(some 11), none, .mv (.t 36)⟩
  (.w 6 ⟨(some 12), none, .mv (.t 37)⟩
  .done))))) .stop)) (some [0, 5, 6, 8, 9, 10, 11, 12]))
 (.seq (.reg false [] (.w 0 ⟨(some 39), none, .mv (.t 6)⟩
  (.w 1 ⟨(some 40), none, .mv (.t 0)⟩
  (.l 2 ⟨(some 41), none, .call 10 [(.c .nilp), (.c (.int .i64 0)), (.t 39), (.t 40)]⟩ []
  (.w 3 ⟨(some 38), none, .mv (.t 41)⟩
  (.w 4 ⟨(some 42), none, .ext (.t 38) 0⟩
  (.w 5 ⟨(some 43), none, .ext (.t 38) 1⟩
  (.w 6 ⟨(some 13), none, .mv (.t 42)⟩
  (.w 7 ⟨(some 14), none, .mv (.t 43)⟩
  .done))))) .stop))) (some [0, 5, 8, 9, 10, 11, 12, 13, 14]))
 (.seq (.reg false [] (.w 0 ⟨(some 44), none, .mv (.t 5)⟩
  (.w 1 ⟨(some 45), none, .mv (.t 0)⟩
  (.l 2 ⟨(some 46), none, .call 11 [(.t 44), (.t 45)]⟩ []
  (.w 3 ⟨(some 47), none, .bin .eql .i (.t 46) (.c (.int .i64 1))⟩
  (.w 4 ⟨(some 48), none, .mv (.t 47)⟩
  (.w 5 ⟨(some 49), (some (48, true)), .mv (.t 5)⟩
  (.w 6 ⟨(some 50), (some (48, true)), .mv (.t 0)⟩
  (.l 7 ⟨(some 51), (some (48, true)), .call 12 [(.t 49), (.t 50)]⟩ []
  (.w 8 ⟨(some 52), (some (48, true)), .bin .eql .i (.t 51) (.c (.int .i64 1))⟩
  (.w 9 ⟨(some 53), none, .pick (.t 48) (.t 52) (.c (.bool false))⟩
  (.w 10 ⟨(some 54), none, .mv (.t 53)⟩
  (.w 11 ⟨(some 55), (some (54, true)), .mv (.t 5)⟩
  (.l 12 ⟨(some 56), (some (54, true)), .call 13 [(.t 55)]⟩ []
  (.w 13 ⟨(some 57), (some (54, true)), .bin .eql .i (.t 56) (.c (.int .i64 1))⟩
  (.w 14 ⟨(some 58), none, .pick (.t 54) (.t 57) (.c (.bool false))⟩
  (.w 15 ⟨(some 59), none, .mv (.t 58)⟩
  (.w 16 ⟨(some 60), (some (59, true)), .mv (.t 5)⟩
  (.l 17 ⟨(some 61), (some (59, true)), .call 14 [(.t 60)]⟩ []
  (.w 18 ⟨(some 62), (some (59, true)), .bin .eql .s (.t 61) (.c (.str []))⟩
  (.w 19 ⟨(some 63), none, .pick (.t 59) (.t 62) (.c (.bool false))⟩
  (.w 20 ⟨(some 64), none, .mv (.t 63)⟩
  (.w 21 ⟨(some 65), (some (64, true)), .mv (.t 5)⟩
  (.l 22 ⟨(some 66), (some (64, true)), .call 15 [(.t 65)]⟩ []
  (.w 23 ⟨(some 67), (some (64, true)), .len true (.t 66)⟩
  (.w 24 ⟨(some 68), (some (64, true)), .bin .eql .i (.t 67) (.c (.int .i64 0))⟩
  (.w 25 ⟨(some 69), none, .pick (.t 64) (.t 68) (.c (.bool false))⟩
  (.w 26 ⟨(some 70), none, .mv (.t 69)⟩
  (.w 27 ⟨(some 71), (some (70, true)), .mv (.t 5)⟩
  (.l 28 ⟨(some 72), (some (70, true)), .call 16 [(.t 71)]⟩ []
  (.w 29 ⟨(some 73), (some (70, true)), .bin .eql .i (.t 72) (.c (.int .i64 0))⟩
  (.w 30 ⟨(some 74), none, .pick (.t 70) (.t 73) (.c (.bool false))⟩
  (.w 31 ⟨(some 75), none, .mv (.t 74)⟩
  (.w 32 ⟨(some 76), (some (75, true)), .mv (.t 8)⟩
  (.w 33 ⟨(some 77), (some (75, true)), .bin .eql .i (.t 76) (.c (.int .i64 0))⟩
  (.w 34 ⟨(some 78), none, .pick (.t 75) (.t 77) (.c (.bool false))⟩
  (.w 35 ⟨(some 79), none, .mv (.t 78)⟩
  (.w 36 ⟨(some 80), (some (79, true)), .mv (.t 9)⟩
  (.w 37 ⟨(some 81), (some (79, true)), .bin .eql .p (.t 80) (.c .nilp)⟩
  (.w 38 ⟨(some 82), none, .pick (.t 79) (.t 81) (.c (.bool false))⟩
  (.w 39 ⟨(some 83), none, .mv (.t 82)⟩
  (.w 40 ⟨(some 84), (some (83, true)), .mv (.t 10)⟩
  (.w 41 ⟨(some 85), (some (83, true)), .bin .eql .i (.t 84) (.c (.int .i64 61))⟩
  (.w 42 ⟨(some 86), none, .pick (.t 83) (.t 85) (.c (.bool false))⟩
  (.w 43 ⟨(some 87), none, .mv (.t 86)⟩
  (.w 44 ⟨(some 88), (some (87, true)), .mv (.t 11)⟩
  (.w 45 ⟨(some 89), (some (87, true)), .bin .eql .p (.t 88) (.c .nilp)⟩
  (.w 46 ⟨(some 90), none, .pick (.t 87) (.t 89) (.c (.bool false))⟩
  (.w 47 ⟨(some 91), none, .mv (.t 90)⟩
  (.w 48 ⟨(some 92), (some (91, true)), .mv (.t 12)⟩
  (.w 49 ⟨(some 93), (some (91, true)), .bin .eql .i (.t 92) (.c (.int .i64 1))⟩
  (.w 50 ⟨(some 94), none, .pick (.t 91) (.t 93) (.c (.bool false))⟩
  (.w 51 ⟨(some 95), none, .mv (.t 94)⟩
  (.w 52 ⟨(some 96), (some (95, true)), .mv (.t 13)⟩
  (.w 53 ⟨(some 97), (some (95, true)), .bin .eql .p (.t 96) (.c .nilp)⟩
  (.w 54 ⟨(some 98), none, .pick (.t 95) (.t 97) (.c (.bool false))⟩
  (.w 55 ⟨(some 99), none, .mv (.t 98)⟩
  (.w 56 ⟨(some 100), (some (99, true)), .mv (.t 14)⟩
  (.w 57 ⟨(some 101), (some (99, true)), .bin .eql .i (.t 100) (.c (.int .i64 1))⟩
  (.w 58 ⟨(some 102), none, .pick (.t 99) (.t 101) (.c (.bool false))⟩
  (.w 59 ⟨(some 103), none, .mv (.t 102)⟩
  (.l 60 ⟨(some 104), (some (103, true)), .call 6 []⟩ []
  (.w 61 ⟨(some 105), none, .pick (.t 103) (.t 104) (.c (.bool false))⟩
  (.w 62 ⟨(some 4), none, .mv (.t 105)⟩
  .done)) .stop)))))))))))))))))))))))))))))))) .stop)))))) .stop))))) .stop))))) .stop))))) .stop))))) .stop))) (some [4]))
 .ret)))))))))
def r_headgatelaw06_JournalNone : List RS := [.t 4]
theorem chk_headgatelaw06_JournalNone : (chkC prog (max Tryd.f3.ntmps 2) s_headgatelaw06_JournalNone (Tryd.f3.body.getD .skip) && chkRS prog r_headgatelaw06_JournalNone Tryd.f3.results.toList) = true := by kernel_rfl
theorem mk_headgatelaw06_JournalNone {G : Glob} {args : List SV} {H : List SO} {K Kp : SV → List SO → Prop} (hl : args.length = 2) (h : VFun prog G 106 s_headgatelaw06_JournalNone r_headgatelaw06_JournalNone args H K Kp) : Con prog G 3 args H K Kp := by
  subst_vars
  exact con_of_vc (fn := Tryd.f3) (sc := s_headgatelaw06_JournalNone) (rs := r_headgatelaw06_JournalNone) rfl Tryd.func3 rfl (by rw [hl]; exact chk_headgatelaw06_JournalNone) (by rw [hl]; exact h)

/- headgate/headgatelaw06.JournalFull; loops: [[5, 9, 11, 12, 13], [5, 9, 11, 12, 13, 14, 15]]; slots [(sectors, 0), (size, 1), (sectors, 2), (size, 3), (n, 5), (k, 6), (d, 7), (e, 8), (j, 9), (f, 10), (text, 11), (each, 12), (round, 13), (want, 14), (i, 15)] -/
def s_headgatelaw06_JournalFull : SCode :=
 (.seq (.reg false [] (.w 0 ⟨(some 4), none, .mv (.c (.bool false))⟩
  .done) (some [0, 1]))
 (.seq (.reg false [] (.w 0 ⟨(some 16), none, .mv (.t 0)⟩
  (.l 1 ⟨(some 17), none, .call 7 [(.t 16), (.c (.int .i64 60))]⟩ []
  (.w 2 ⟨(some 18), none, .bin .add .i (.c (.int .i64 8)) (.t 17)⟩
  (.w 3 ⟨(some 19), none, .mv (.t 1)⟩
  (.l 4 ⟨(some 20), none, .call 7 [(.t 19), (.c (.int .i64 1200))]⟩ []
  (.w 5 ⟨(some 5), none, .mv (.t 18)⟩
  (.w 6 ⟨(some 6), none, .mv (.t 20)⟩
  .done)) .stop))) .stop)) (some [5, 6]))
 (.seq (.reg false [] (.w 0 ⟨(some 22), none, .mv (.t 5)⟩
  (.l 1 ⟨(some 23), none, .call 8 [(.t 22)]⟩ []
  (.w 2 ⟨(some 21), none, .mv (.t 23)⟩
  (.w 3 ⟨(some 24), none, .ext (.t 21) 0⟩
  (.w 4 ⟨(some 25), none, .ext (.t 21) 1⟩
  (.w 5 ⟨(some 7), none, .mv (.t 24)⟩
  (.w 6 ⟨(some 8), none, .mv (.t 25)⟩
  .done))))) .stop)) (some [5, 6, 7, 8]))
 (.seq (.reg false [] (.w 0 ⟨(some 27), none, .mv (.t 7)⟩
  (.w 1 ⟨(some 28), none, .mv (.t 5)⟩
  (.l 2 ⟨(some 29), none, .call 10 [(.t 27), (.c (.int .i64 0)), (.t 28), (.c (.str []))]⟩ []
  (.w 3 ⟨(some 26), none, .mv (.t 29)⟩
  (.w 4 ⟨(some 30), none, .ext (.t 26) 0⟩
  (.w 5 ⟨(some 31), none, .ext (.t 26) 1⟩
  (.w 6 ⟨(some 9), none, .mv (.t 30)⟩
  (.w 7 ⟨(some 10), none, .mv (.t 31)⟩
  .done))))) .stop))) (some [5, 6, 8, 9, 10]))
 (.seq (.seq (.reg false [] (.w 0 ⟨(some 32), none, .mv (.t 8)⟩
  (.w 1 ⟨(some 33), none, .bin .neq .i (.t 32) (.c (.int .i64 0))⟩
  (.w 2 ⟨(some 34), none, .mv (.t 33)⟩
  (.w 3 ⟨(some 35), (some (34, false)), .mv (.t 10)⟩
  (.w 4 ⟨(some 36), (some (34, false)), .bin .neq .i (.t 35) (.c (.int .i64 0))⟩
  (.w 5 ⟨(some 37), none, .pick (.t 34) (.c (.bool true)) (.t 36)⟩
  .done)))))) (some [5, 6, 9, 10, 37]))
 (.cond (.t 37) (.seq (.reg false [] (.w 0 ⟨(some 38), none, .mv (.t 10)⟩
  (.w 1 ⟨(some 39), none, .bin .eql .i (.t 38) (.c (.int .i64 60))⟩
  (.w 2 ⟨(some 40), none, .mv (.t 39)⟩
  (.w 3 ⟨(some 41), (some (40, true)), .mv (.t 5)⟩
  (.w 4 ⟨(some 42), (some (40, true)), .bin .sub .i (.t 41) (.c (.int .i64 4))⟩
  (.w 5 ⟨(some 43), (some (40, true)), .bin .quo .i (.t 42) (.c (.int .i64 2))⟩
  (.w 6 ⟨(some 44), (some (40, true)), .bin .lss .i (.t 43) (.c (.int .i64 1))⟩
  (.w 7 ⟨(some 45), none, .pick (.t 40) (.t 44) (.c (.bool false))⟩
  (.w 8 ⟨(some 46), none, .mv (.t 45)⟩
  (.l 9 ⟨(some 47), (some (46, true)), .call 6 []⟩ []
  (.w 10 ⟨(some 48), none, .pick (.t 46) (.t 47) (.c (.bool false))⟩
  (.w 11 ⟨(some 4), none, .mv (.t 48)⟩
  .done)) .stop)))))))))) (some [4]))
 .ret)
 .skip))
 (.seq (.reg false [] (.w 0 ⟨(some 49), none, .mv (.t 6)⟩
  (.l 1 ⟨(some 50), none, .call 17 [(.t 49)]⟩ []
  (.w 2 ⟨(some 11), none, .mv (.t 50)⟩
  .done) .stop)) (some [5, 6, 9, 11]))
 (.seq (.reg false [] (.w 0 ⟨(some 51), none, .mv (.t 6)⟩
  (.w 1 ⟨(some 52), none, .bin .add .i (.c (.int .i64 24)) (.t 51)⟩
  (.w 2 ⟨(some 53), none, .bin .add .i (.t 52) (.c (.int .i64 511))⟩
  (.w 3 ⟨(some 54), none, .bin .quo .i (.t 53) (.c (.int .i64 512))⟩
  (.w 4 ⟨(some 12), none, .mv (.t 54)⟩
  .done))))) (some [5, 9, 11, 12]))
 (.seq (.seq (.reg false [] (.w 0 ⟨(some 13), none, .mv (.c (.int .i64 0))⟩
  .done) (some [5, 9, 11, 12, 13]))
 (.block 0 (.loop (.seq (.seq (.reg false [] (.w 0 ⟨(some 55), none, .mv (.t 13)⟩
  (.w 1 ⟨(some 56), none, .bin .lss .i (.t 55) (.c (.int .i64 3))⟩
  .done)) (some [5, 9, 11, 12, 13, 56]))
 (.cond (.t 56) .skip
 (.exit 0)))
 (.seq (.block 1 (.seq (.reg false [] (.w 0 ⟨(some 59), none, .mv (.t 5)⟩
  (.w 1 ⟨(some 60), none, .bin .sub .i (.t 59) (.c (.int .i64 4))⟩
  (.w 2 ⟨(some 61), none, .bin .quo .i (.t 60) (.c (.int .i64 2))⟩
  (.w 3 ⟨(some 62), none, .bin .sub .i (.t 61) (.c (.int .i64 1))⟩
  (.w 4 ⟨(some 63), none, .mv (.t 12)⟩
  (.w 5 ⟨(some 64), none, .bin .quo .i (.t 62) (.t 63)⟩
  (.w 6 ⟨(some 14), none, .mv (.t 64)⟩
  .done))))))) (some [5, 9, 11, 12, 13, 14]))
 (.seq (.seq (.reg false [] (.w 0 ⟨(some 15), none, .mv (.c (.int .i64 0))⟩
  .done) (some [5, 9, 11, 12, 13, 14, 15]))
 (.block 2 (.loop (.seq (.seq (.reg false [] (.w 0 ⟨(some 65), none, .mv (.t 15)⟩
  (.w 1 ⟨(some 66), none, .mv (.t 14)⟩
  (.w 2 ⟨(some 67), none, .bin .lss .i (.t 65) (.t 66)⟩
  .done))) (some [5, 9, 11, 12, 13, 14, 15, 67]))
 (.cond (.t 67) .skip
 (.exit 2)))
 (.seq (.block 3 (.seq (.reg false [] (.w 0 ⟨(some 70), none, .mv (.t 9)⟩
  (.w 1 ⟨(some 71), none, .mv (.t 11)⟩
  (.l 2 ⟨(some 72), none, .call 11 [(.t 70), (.t 71)]⟩ []
  (.w 3 ⟨(some 73), none, .bin .neq .i (.t 72) (.c (.int .i64 0))⟩
  .done) .stop))) (some [5, 9, 11, 12, 13, 14, 15, 73]))
 (.cond (.t 73) (.seq (.reg false [] (.w 0 ⟨(some 4), none, .mv (.c (.bool false))⟩
  .done) (some [4]))
 .ret)
 .skip)))
 (.reg false [] (.w 0 ⟨(some 68), none, .mv (.t 15)⟩
  (.w 1 ⟨(some 69), none, .bin .add .i (.t 68) (.c (.int .i64 1))⟩
  (.w 2 ⟨(some 15), none, .mv (.t 69)⟩
  .done))) (some [5, 9, 11, 12, 13, 14, 15])))))))
 (.seq (.seq (.reg false [] (.w 0 ⟨(some 74), none, .mv (.t 9)⟩
  (.w 1 ⟨(some 75), none, .mv (.t 11)⟩
  (.l 2 ⟨(some 76), none, .call 11 [(.t 74), (.t 75)]⟩ []
  (.w 3 ⟨(some 77), none, .bin .neq .i (.t 76) (.c (.int .i64 60))⟩
  (.w 4 ⟨(some 78), none, .mv (.t 77)⟩
  (.w 5 ⟨(some 79), (some (78, false)), .mv (.t 9)⟩
  (.l 6 ⟨(some 80), (some (78, false)), .call 15 [(.t 79)]⟩ []
  (.w 7 ⟨(some 81), (some (78, false)), .len true (.t 80)⟩
  (.w 8 ⟨(some 82), (some (78, false)), .mv (.t 14)⟩
  (.w 9 ⟨(some 83), (some (78, false)), .bin .neq .i (.t 81) (.t 82)⟩
  (.w 10 ⟨(some 84), none, .pick (.t 78) (.c (.bool true)) (.t 83)⟩
  (.w 11 ⟨(some 85), none, .mv (.t 84)⟩
  (.w 12 ⟨(some 86), (some (85, false)), .mv (.t 9)⟩
  (.l 13 ⟨(some 87), (some (85, false)), .call 16 [(.t 86)]⟩ []
  (.w 14 ⟨(some 88), (some (85, false)), .mv (.t 5)⟩
  (.w 15 ⟨(some 89), (some (85, false)), .bin .sub .i (.t 88) (.c (.int .i64 4))⟩
  (.w 16 ⟨(some 90), (some (85, false)), .bin .quo .i (.t 89) (.c (.int .i64 2))⟩
  (.w 17 ⟨(some 91), (some (85, false)), .bin .sub .i (.t 90) (.c (.int .i64 1))⟩
  (.w 18 ⟨(some 92), (some (85, false)), .mv (.t 14)⟩
  (.w 19 ⟨(some 93), (some (85, false)), .mv (.t 12)⟩
  (.w 20 ⟨(some 94), (some (85, false)), .bin .mul .i (.t 92) (.t 93)⟩
  (.w 21 ⟨(some 95), (some (85, false)), .bin .sub .i (.t 91) (.t 94)⟩
  (.w 22 ⟨(some 96), (some (85, false)), .bin .neq .i (.t 87) (.t 95)⟩
  (.w 23 ⟨(some 97), none, .pick (.t 85) (.c (.bool true)) (.t 96)⟩
  .done)))))))))) .stop))))))) .stop)))) .stop))) (some [5, 9, 11, 12, 13, 97]))
 (.cond (.t 97) (.seq (.reg false [] (.w 0 ⟨(some 4), none, .mv (.c (.bool false))⟩
  .done) (some [4]))
 .ret)
 .skip))
 (.seq (.reg false [] (.w 0 ⟨(some 98), none, .mv (.t 9)⟩
  (.l 1 ⟨(some 99), none, .call 12 [(.t 98), (.c (.str []))]⟩ []
  (.w 2 ⟨(some 100), none, .bin .neq .i (.t 99) (.c (.int .i64 0))⟩
  (.w 3 ⟨(some 101), none, .mv (.t 100)⟩
  (.w 4 ⟨(some 102), (some (101, false)), .mv (.t 9)⟩
  (.l 5 ⟨(some 103), (some (101, false)), .call 15 [(.t 102)]⟩ []
  (.w 6 ⟨(some 104), (some (101, false)), .len true (.t 103)⟩
  (.w 7 ⟨(some 105), (some (101, false)), .bin .neq .i (.t 104) (.c (.int .i64 0))⟩
  (.w 8 ⟨(some 106), none, .pick (.t 101) (.c (.bool true)) (.t 105)⟩
  .done))) .stop)))) .stop)) (some [5, 9, 11, 12, 13, 106]))
 (.cond (.t 106) (.seq (.reg false [] (.w 0 ⟨(some 4), none, .mv (.c (.bool false))⟩
  .done) (some [4]))
 .ret)
 .skip))))))
 (.reg false [] (.w 0 ⟨(some 57), none, .mv (.t 13)⟩
  (.w 1 ⟨(some 58), none, .bin .add .i (.t 57) (.c (.int .i64 1))⟩
  (.w 2 ⟨(some 13), none, .mv (.t 58)⟩
  .done))) (some [5, 9, 11, 12, 13])))))))
 (.seq (.reg false [] (.l 0 ⟨(some 107), none, .call 6 []⟩ []
  (.w 1 ⟨(some 4), none, .mv (.t 107)⟩
  .done) .stop) (some [4]))
 .ret)))))))))
def r_headgatelaw06_JournalFull : List RS := [.t 4]
theorem chk_headgatelaw06_JournalFull : (chkC prog (max Tryd.f4.ntmps 2) s_headgatelaw06_JournalFull (Tryd.f4.body.getD .skip) && chkRS prog r_headgatelaw06_JournalFull Tryd.f4.results.toList) = true := by kernel_rfl
theorem mk_headgatelaw06_JournalFull {G : Glob} {args : List SV} {H : List SO} {K Kp : SV → List SO → Prop} (hl : args.length = 2) (h : VFun prog G 108 s_headgatelaw06_JournalFull r_headgatelaw06_JournalFull args H K Kp) : Con prog G 4 args H K Kp := by
  subst_vars
  exact con_of_vc (fn := Tryd.f4) (sc := s_headgatelaw06_JournalFull) (rs := r_headgatelaw06_JournalFull) rfl Tryd.func4 rfl (by rw [hl]; exact chk_headgatelaw06_JournalFull) (by rw [hl]; exact h)

/- headgate/headgatelaw06.JournalSwitch; loops: [[0, 1, 2, 7, 9, 11]]; slots [(l, 0), (n, 1), (keep, 2), (l, 3), (n, 4), (keep, 5), (d, 7), (e, 8), (j, 9), (f, 10), (i, 11), (told, 12), (o, 13), (g, 14), (fresh, 15), (old, 16)] -/
def s_headgatelaw06_JournalSwitch : SCode :=
 (.seq (.reg false [] (.w 0 ⟨(some 6), none, .mv (.c (.bool false))⟩
  .done) (some [0, 1, 2]))
 (.seq (.seq (.reg false [] (.w 0 ⟨(some 17), none, .mv (.t 0)⟩
  (.w 1 ⟨(some 18), none, .len true (.t 17)⟩
  (.w 2 ⟨(some 19), none, .bin .lss .i (.t 18) (.c (.int .i64 1))⟩
  (.w 3 ⟨(some 20), none, .mv (.t 19)⟩
  (.w 4 ⟨(some 21), (some (20, false)), .mv (.t 0)⟩
  (.w 5 ⟨(some 22), (some (20, false)), .len true (.t 21)⟩
  (.w 6 ⟨(some 23), (some (20, false)), .bin .gtr .i (.t 22) (.c (.int .i64 8))⟩
  (.w 7 ⟨(some 24), none, .pick (.t 20) (.c (.bool true)) (.t 23)⟩
  .done)))))))) (some [0, 1, 2, 24]))
 (.cond (.t 24) (.seq (.reg false [] (.l 0 ⟨(some 25), none, .call 6 []⟩ []
  (.w 1 ⟨(some 6), none, .mv (.t 25)⟩
  .done) .stop) (some [6]))
 .ret)
 .skip))
 (.seq (.reg false [] (.l 0 ⟨(some 27), none, .call 8 [(.c (.int .i64 200))]⟩ []
  (.w 1 ⟨(some 26), none, .mv (.t 27)⟩
  (.w 2 ⟨(some 28), none, .ext (.t 26) 0⟩
  (.w 3 ⟨(some 29), none, .ext (.t 26) 1⟩
  (.w 4 ⟨(some 7), none, .mv (.t 28)⟩
  (.w 5 ⟨(some 8), none, .mv (.t 29)⟩
  .done))))) .stop) (some [0, 1, 2, 7, 8]))
 (.seq (.reg false [] (.w 0 ⟨(some 31), none, .mv (.t 7)⟩
  (.l 1 ⟨(some 32), none, .call 10 [(.t 31), (.c (.int .i64 2)), (.c (.int .i64 198)), (.c (.str [111, 108, 100]))]⟩ []
  (.w 2 ⟨(some 30), none, .mv (.t 32)⟩
  (.w 3 ⟨(some 33), none, .ext (.t 30) 0⟩
  (.w 4 ⟨(some 34), none, .ext (.t 30) 1⟩
  (.w 5 ⟨(some 9), none, .mv (.t 33)⟩
  (.w 6 ⟨(some 10), none, .mv (.t 34)⟩
  .done))))) .stop)) (some [0, 1, 2, 7, 8, 9, 10]))
 (.seq (.seq (.reg false [] (.w 0 ⟨(some 35), none, .mv (.t 8)⟩
  (.w 1 ⟨(some 36), none, .bin .neq .i (.t 35) (.c (.int .i64 0))⟩
  (.w 2 ⟨(some 37), none, .mv (.t 36)⟩
  (.w 3 ⟨(some 38), (some (37, false)), .mv (.t 10)⟩
  (.w 4 ⟨(some 39), (some (37, false)), .bin .neq .i (.t 38) (.c (.int .i64 0))⟩
  (.w 5 ⟨(some 40), none, .pick (.t 37) (.c (.bool true)) (.t 39)⟩
  .done)))))) (some [0, 1, 2, 7, 9, 40]))
 (.cond (.t 40) (.seq (.reg false [] (.w 0 ⟨(some 6), none, .mv (.c (.bool false))⟩
  .done) (some [6]))
 .ret)
 .skip))
 (.seq (.seq (.reg false [] (.w 0 ⟨(some 11), none, .mv (.c (.int .i64 1))⟩
  .done) (some [0, 1, 2, 7, 9, 11]))
 (.block 0 (.loop (.seq (.seq (.reg false [] (.w 0 ⟨(some 41), none, .mv (.t 11)⟩
  (.w 1 ⟨(some 42), none, .mv (.t 0)⟩
  (.w 2 ⟨(some 43), none, .len true (.t 42)⟩
  (.w 3 ⟨(some 44), none, .bin .lss .i (.t 41) (.t 43)⟩
  .done)))) (some [0, 1, 2, 7, 9, 11, 44]))
 (.cond (.t 44) .skip
 (.exit 0)))
 (.seq (.block 1 (.seq (.seq (.reg false [] (.w 0 ⟨(some 47), none, .mv (.t 0)⟩
  (.w 1 ⟨(some 48), none, .mv (.t 11)⟩
  (.w 2 ⟨(some 49), none, .ia (.t 47) (.t 48) 1⟩
  (.rd 3 ⟨(some 50), none, .ld (.t 49) 1 false⟩
  (.w 4 ⟨(some 51), none, .len false (.t 50)⟩
  (.w 5 ⟨(some 52), none, .bin .gtr .i (.t 51) (.c (.int .i64 1500))⟩
  .done)))))) (some [0, 1, 2, 7, 9, 11, 52]))
 (.cond (.t 52) (.seq (.reg false [] (.l 0 ⟨(some 53), none, .call 6 []⟩ []
  (.w 1 ⟨(some 6), none, .mv (.t 53)⟩
  .done) .stop) (some [6]))
 .ret)
 .skip))
 (.seq (.reg false [] (.w 0 ⟨(some 54), none, .mv (.t 9)⟩
  (.w 1 ⟨(some 55), none, .mv (.t 0)⟩
  (.w 2 ⟨(some 56), none, .mv (.t 11)⟩
  (.w 3 ⟨(some 57), none, .ia (.t 55) (.t 56) 1⟩
  (.rd 4 ⟨(some 58), none, .ld (.t 57) 1 false⟩
  (.l 5 ⟨(some 59), none, .call 11 [(.t 54), (.t 58)]⟩ []
  (.w 6 ⟨(some 60), none, .bin .neq .i (.t 59) (.c (.int .i64 0))⟩
  .done) .stop)))))) (some [0, 1, 2, 7, 9, 11, 60]))
 (.cond (.t 60) (.seq (.reg false [] (.w 0 ⟨(some 6), none, .mv (.c (.bool false))⟩
  .done) (some [6]))
 .ret)
 .skip))))
 (.reg false [] (.w 0 ⟨(some 45), none, .mv (.t 11)⟩
  (.w 1 ⟨(some 46), none, .bin .add .i (.t 45) (.c (.int .i64 1))⟩
  (.w 2 ⟨(some 11), none, .mv (.t 46)⟩
  .done))) (some [0, 1, 2, 7, 9, 11])))))))
 (.seq (.seq (.reg false [] (.w 0 ⟨(some 61), none, .mv (.t 0)⟩
  (.w 1 ⟨(some 62), none, .ia (.t 61) (.c (.int .i64 0)) 1⟩
  (.rd 2 ⟨(some 63), none, .ld (.t 62) 1 false⟩
  (.w 3 ⟨(some 64), none, .len false (.t 63)⟩
  (.w 4 ⟨(some 65), none, .bin .gtr .i (.t 64) (.c (.int .i64 1500))⟩
  .done))))) (some [0, 1, 2, 7, 9, 65]))
 (.cond (.t 65) (.seq (.reg false [] (.l 0 ⟨(some 66), none, .call 6 []⟩ []
  (.w 1 ⟨(some 6), none, .mv (.t 66)⟩
  .done) .stop) (some [6]))
 .ret)
 .skip))
 (.seq (.seq (.reg false [] (.w 0 ⟨(some 67), none, .mv (.t 9)⟩
  (.l 1 ⟨(some 68), none, .call 13 [(.t 67)]⟩ []
  (.w 2 ⟨(some 69), none, .bin .neq .i (.t 68) (.c (.int .i64 0))⟩
  .done) .stop)) (some [0, 1, 2, 7, 9, 69]))
 (.cond (.t 69) (.seq (.reg false [] (.w 0 ⟨(some 6), none, .mv (.c (.bool false))⟩
  .done) (some [6]))
 .ret)
 .skip))
 (.seq (.reg false [] (.w 0 ⟨(some 70), none, .mv (.t 7)⟩
  (.w 1 ⟨(some 71), none, .mv (.t 1)⟩
  (.l 2 ⟨(some 72), none, .call 7 [(.t 71), (.c (.int .i64 20))]⟩ []
  (.l 3 ⟨(some 73), none, .call 18 [(.t 70), (.t 72)]⟩ []
  .done .stop) .stop))) (some [0, 2, 7, 9]))
 (.seq (.reg false [] (.w 0 ⟨(some 74), none, .mv (.t 9)⟩
  (.w 1 ⟨(some 75), none, .mv (.t 0)⟩
  (.w 2 ⟨(some 76), none, .ia (.t 75) (.c (.int .i64 0)) 1⟩
  (.rd 3 ⟨(some 77), none, .ld (.t 76) 1 false⟩
  (.l 4 ⟨(some 78), none, .call 12 [(.t 74), (.t 77)]⟩ []
  (.w 5 ⟨(some 12), none, .mv (.t 78)⟩
  .done) .stop))))) (some [0, 2, 7, 9, 12]))
 (.seq (.seq (.reg false [] (.w 0 ⟨(some 79), none, .mv (.t 12)⟩
  (.w 1 ⟨(some 80), none, .bin .eql .i (.t 79) (.c (.int .i64 0))⟩
  .done)) (some [0, 2, 7, 9, 12, 80]))
 (.cond (.t 80) (.reg false [] (.w 0 ⟨(some 81), none, .mv (.t 9)⟩
  (.l 1 ⟨(some 82), none, .call 13 [(.t 81)]⟩ []
  (.w 2 ⟨(some 12), none, .mv (.t 82)⟩
  .done) .stop)) (some [0, 2, 7, 12]))
 .skip))
 (.seq (.reg false [] (.w 0 ⟨(some 83), none, .mv (.t 7)⟩
  (.l 1 ⟨(some 84), none, .bsl (intC .i64 ty_int) 0 []⟩ []
  (.w 2 ⟨(some 85), none, .mv (.t 2)⟩
  (.l 3 ⟨(some 86), none, .app 3 1 8 (.t 84) (.t 85)⟩ []
  (.l 4 ⟨(some 87), none, .call 19 [(.t 83), (.t 86)]⟩ []
  .done .stop) .stop)) .stop)) (some [0, 7, 12]))
 (.seq (.reg false [] (.w 0 ⟨(some 89), none, .mv (.t 7)⟩
  (.l 1 ⟨(some 90), none, .call 9 [(.t 89), (.c (.int .i64 2)), (.c (.int .i64 198))]⟩ []
  (.w 2 ⟨(some 88), none, .mv (.t 90)⟩
  (.w 3 ⟨(some 91), none, .ext (.t 88) 0⟩
  (.w 4 ⟨(some 92), none, .ext (.t 88) 1⟩
  (.w 5 ⟨(some 13), none, .mv (.t 91)⟩
  (.w 6 ⟨(some 14), none, .mv (.t 92)⟩
  .done))))) .stop)) (some [0, 12, 13, 14]))
 (.seq (.seq (.reg false [] (.w 0 ⟨(some 93), none, .mv (.t 14)⟩
  (.w 1 ⟨(some 94), none, .bin .neq .i (.t 93) (.c (.int .i64 0))⟩
  .done)) (some [0, 12, 13, 94]))
 (.cond (.t 94) (.seq (.reg false [] (.w 0 ⟨(some 6), none, .mv (.c (.bool false))⟩
  .done) (some [6]))
 .ret)
 .skip))
 (.seq (.reg true [[], [0], [], [2], [2, 3], [0, 1, 2, 3, 4], [0, 1, 2, 3, 4, 5], [0, 1, 2, 3, 4, 5, 6], [0, 1, 2, 3, 4, 5, 6, 7], [0, 1, 2, 3, 4, 5, 6, 7, 8], [0, 1, 2, 3, 4, 5, 6, 7, 8, 9], [0, 1, 2, 3, 4, 5, 6, 7, 8, 9, 10], [0, 1, 2, 3, 4, 5, 6, 7, 8, 9, 10, 11]] (.w 0 ⟨(some 95), none, .mv (.t 13)⟩
  (.w 2 ⟨(some 97), none, .mv (.t 0)⟩
  (.w 3 ⟨(some 98), none, .ia (.t 97) (.c (.int .i64 0)) 1⟩
  (.rd 4 ⟨(some 99), none, .ld (.t 98) 1 false⟩
  (.l 1 ⟨(some 96), none, .call 14 [(.t 95)]⟩ [(4, ⟨(some 99), none, .ld (.t 98) 1 false⟩)]
  (.w 5 ⟨(some 100), none, .bin .eql .s (.t 96) (.t 99)⟩
  (.w 6 ⟨(some 101), none, .mv (.t 100)⟩
  (.w 7 ⟨(some 102), (some (101, true)), .mv (.t 13)⟩
  (.l 8 ⟨(some 103), (some (101, true)), .call 15 [(.t 102)]⟩ []
  (.w 9 ⟨(some 104), (some (101, true)), .len true (.t 103)⟩
  (.w 10 ⟨(some 105), (some (101, true)), .bin .eql .i (.t 104) (.c (.int .i64 0))⟩
  (.w 11 ⟨(some 106), none, .pick (.t 101) (.t 105) (.c (.bool false))⟩
  (.w 12 ⟨(some 15), none, .mv (.t 106)⟩
  .done)))) .stop)))) .stop))))) (some [0, 12, 13, 15]))
 (.seq (.reg true [[], [0], [0, 1], [0, 1, 2], [0, 1, 2, 3], [0, 1, 2, 3, 4], [0, 1, 2, 3], [0, 1, 2, 3, 6], [0, 1, 2, 3, 4, 5, 6, 7], [0, 1, 2, 3, 4, 5, 6, 7, 8], [0, 1, 2, 3, 4, 5, 6, 7, 8, 9]] (.w 0 ⟨(some 107), none, .mv (.t 13)⟩
  (.l 1 ⟨(some 108), none, .call 14 [(.t 107)]⟩ []
  (.w 2 ⟨(some 109), none, .bin .eql .s (.t 108) (.c (.str [111, 108, 100]))⟩
  (.w 3 ⟨(some 110), none, .mv (.t 109)⟩
  (.w 4 ⟨(some 111), (some (110, true)), .mv (.t 13)⟩
  (.w 6 ⟨(some 113), (some (110, true)), .mv (.t 0)⟩
  (.w 7 ⟨(some 114), (some (110, true)), .slc 1 (.t 113) (some (.c (.int .i64 1))) none⟩
  (.l 5 ⟨(some 112), (some (110, true)), .call 15 [(.t 111)]⟩ []
  (.l 8 ⟨(some 115), (some (110, true)), .call 20 [(.t 112), (.t 114)]⟩ []
  (.w 9 ⟨(some 116), none, .pick (.t 110) (.t 115) (.c (.bool false))⟩
  (.w 10 ⟨(some 16), none, .mv (.t 116)⟩
  .done)) .stop) .stop)))))) .stop)) (some [12, 15, 16]))
 (.seq (.reg false [] (.w 0 ⟨(some 117), none, .mv (.t 15)⟩
  (.w 1 ⟨(some 118), none, .mv (.t 117)⟩
  (.w 2 ⟨(some 119), (some (118, false)), .mv (.t 12)⟩
  (.w 3 ⟨(some 120), (some (118, false)), .bin .neq .i (.t 119) (.c (.int .i64 0))⟩
  (.w 4 ⟨(some 121), (some (118, false)), .mv (.t 120)⟩
  (.w 5 ⟨(some 122), (some (121, true)), .mv (.t 16)⟩
  (.w 6 ⟨(some 123), (some (118, false)), .pick (.t 121) (.t 122) (.c (.bool false))⟩
  (.w 7 ⟨(some 124), none, .pick (.t 118) (.c (.bool true)) (.t 123)⟩
  (.w 8 ⟨(some 125), none, .mv (.t 124)⟩
  (.l 9 ⟨(some 126), (some (125, true)), .call 6 []⟩ []
  (.w 10 ⟨(some 127), none, .pick (.t 125) (.t 126) (.c (.bool false))⟩
  (.w 11 ⟨(some 6), none, .mv (.t 127)⟩
  .done)) .stop)))))))))) (some [6]))
 .ret)))))))))))))))))
def r_headgatelaw06_JournalSwitch : List RS := [.t 6]
theorem chk_headgatelaw06_JournalSwitch : (chkC prog (max Tryd.f5.ntmps 3) s_headgatelaw06_JournalSwitch (Tryd.f5.body.getD .skip) && chkRS prog r_headgatelaw06_JournalSwitch Tryd.f5.results.toList) = true := by kernel_rfl
theorem mk_headgatelaw06_JournalSwitch {G : Glob} {args : List SV} {H : List SO} {K Kp : SV → List SO → Prop} (hl : args.length = 3) (h : VFun prog G 128 s_headgatelaw06_JournalSwitch r_headgatelaw06_JournalSwitch args H K Kp) : Con prog G 5 args H K Kp := by
  subst_vars
  exact con_of_vc (fn := Tryd.f5) (sc := s_headgatelaw06_JournalSwitch) (rs := r_headgatelaw06_JournalSwitch) rfl Tryd.func5 rfl (by rw [hl]; exact chk_headgatelaw06_JournalSwitch) (by rw [hl]; exact h)

/- headgate/headgatelaw06.wakes; loops: []; slots [(d, 1), (e, 2), (j, 3), (f, 4), (left, 5), (k, 6), (g, 7)] -/
def s_headgatelaw06_wakes : SCode :=
 (.seq (.reg false [] (.w 0 ⟨(some 0), none, .mv (.c (.bool false))⟩
  .done) (some []))
 (.seq (.reg false [] (.l 0 ⟨(some 9), none, .call 8 [(.c (.int .i64 40))]⟩ []
  (.w 1 ⟨(some 8), none, .mv (.t 9)⟩
  (.w 2 ⟨(some 10), none, .ext (.t 8) 0⟩
  (.w 3 ⟨(some 11), none, .ext (.t 8) 1⟩
  (.w 4 ⟨(some 1), none, .mv (.t 10)⟩
  (.w 5 ⟨(some 2), none, .mv (.t 11)⟩
  .done))))) .stop) (some [1, 2]))
 (.seq (.reg false [] (.w 0 ⟨(some 13), none, .mv (.t 1)⟩
  (.l 1 ⟨(some 14), none, .call 10 [(.t 13), (.c (.int .i64 3)), (.c (.int .i64 30)), (.c (.str [97]))]⟩ []
  (.w 2 ⟨(some 12), none, .mv (.t 14)⟩
  (.w 3 ⟨(some 15), none, .ext (.t 12) 0⟩
  (.w 4 ⟨(some 16), none, .ext (.t 12) 1⟩
  (.w 5 ⟨(some 3), none, .mv (.t 15)⟩
  (.w 6 ⟨(some 4), none, .mv (.t 16)⟩
  .done))))) .stop)) (some [1, 2, 3, 4]))
 (.seq (.seq (.reg false [] (.w 0 ⟨(some 17), none, .mv (.t 2)⟩
  (.w 1 ⟨(some 18), none, .bin .neq .i (.t 17) (.c (.int .i64 0))⟩
  (.w 2 ⟨(some 19), none, .mv (.t 18)⟩
  (.w 3 ⟨(some 20), (some (19, false)), .mv (.t 4)⟩
  (.w 4 ⟨(some 21), (some (19, false)), .bin .neq .i (.t 20) (.c (.int .i64 0))⟩
  (.w 5 ⟨(some 22), none, .pick (.t 19) (.c (.bool true)) (.t 21)⟩
  (.w 6 ⟨(some 23), none, .mv (.t 22)⟩
  (.w 7 ⟨(some 24), (some (23, false)), .mv (.t 3)⟩
  (.l 8 ⟨(some 25), (some (23, false)), .call 11 [(.t 24), (.c (.str [98]))]⟩ []
  (.w 9 ⟨(some 26), (some (23, false)), .bin .neq .i (.t 25) (.c (.int .i64 0))⟩
  (.w 10 ⟨(some 27), none, .pick (.t 23) (.c (.bool true)) (.t 26)⟩
  (.w 11 ⟨(some 28), none, .mv (.t 27)⟩
  (.w 12 ⟨(some 29), (some (28, false)), .mv (.t 3)⟩
  (.l 13 ⟨(some 30), (some (28, false)), .call 13 [(.t 29)]⟩ []
  (.w 14 ⟨(some 31), (some (28, false)), .bin .neq .i (.t 30) (.c (.int .i64 0))⟩
  (.w 15 ⟨(some 32), none, .pick (.t 28) (.c (.bool true)) (.t 31)⟩
  .done)) .stop))))) .stop))))))))) (some [1, 3, 32]))
 (.cond (.t 32) (.seq (.reg false [] (.w 0 ⟨(some 0), none, .mv (.c (.bool false))⟩
  .done) (some [0]))
 .ret)
 .skip))
 (.seq (.reg false [] (.w 0 ⟨(some 33), none, .mv (.t 3)⟩
  (.l 1 ⟨(some 34), none, .call 16 [(.t 33)]⟩ []
  (.w 2 ⟨(some 5), none, .mv (.t 34)⟩
  .done) .stop)) (some [1, 5]))
 (.seq (.reg false [] (.w 0 ⟨(some 35), none, .mv (.t 1)⟩
  (.l 1 ⟨(some 36), none, .call 19 [(.t 35), (.c .nils)]⟩ []
  .done .stop)) (some [1, 5]))
 (.seq (.reg false [] (.w 0 ⟨(some 38), none, .mv (.t 1)⟩
  (.l 1 ⟨(some 39), none, .call 9 [(.t 38), (.c (.int .i64 3)), (.c (.int .i64 30))]⟩ []
  (.w 2 ⟨(some 37), none, .mv (.t 39)⟩
  (.w 3 ⟨(some 40), none, .ext (.t 37) 0⟩
  (.w 4 ⟨(some 41), none, .ext (.t 37) 1⟩
  (.w 5 ⟨(some 6), none, .mv (.t 40)⟩
  (.w 6 ⟨(some 7), none, .mv (.t 41)⟩
  .done))))) .stop)) (some [5, 6, 7]))
 (.seq (.reg false [] (.w 0 ⟨(some 42), none, .mv (.t 7)⟩
  (.w 1 ⟨(some 43), none, .bin .eql .i (.t 42) (.c (.int .i64 0))⟩
  (.w 2 ⟨(some 44), none, .mv (.t 43)⟩
  (.w 3 ⟨(some 45), (some (44, true)), .mv (.t 6)⟩
  (.l 4 ⟨(some 46), (some (44, true)), .call 14 [(.t 45)]⟩ []
  (.w 5 ⟨(some 47), (some (44, true)), .bin .eql .s (.t 46) (.c (.str [97]))⟩
  (.w 6 ⟨(some 48), none, .pick (.t 44) (.t 47) (.c (.bool false))⟩
  (.w 7 ⟨(some 49), none, .mv (.t 48)⟩
  (.w 8 ⟨(some 50), (some (49, true)), .mv (.t 6)⟩
  (.l 9 ⟨(some 51), (some (49, true)), .call 15 [(.t 50)]⟩ []
  (.l 10 ⟨(some 52), (some (49, true)), .bsl (strC ty_string) 1 [(0, 1, (.c (.str [98])))]⟩ []
  (.l 11 ⟨(some 53), (some (49, true)), .call 20 [(.t 51), (.t 52)]⟩ []
  (.w 12 ⟨(some 54), none, .pick (.t 49) (.t 53) (.c (.bool false))⟩
  (.w 13 ⟨(some 55), none, .mv (.t 54)⟩
  (.w 14 ⟨(some 56), (some (55, true)), .mv (.t 5)⟩
  (.w 15 ⟨(some 57), (some (55, true)), .bin .eql .i (.t 56) (.c (.int .i64 11))⟩
  (.w 16 ⟨(some 58), none, .pick (.t 55) (.t 57) (.c (.bool false))⟩
  (.w 17 ⟨(some 0), none, .mv (.t 58)⟩
  .done)))))) .stop) .stop) .stop))))) .stop))))) (some [0]))
 .ret))))))))
def r_headgatelaw06_wakes : List RS := [.t 0]
theorem chk_headgatelaw06_wakes : (chkC prog (max Tryd.f6.ntmps 0) s_headgatelaw06_wakes (Tryd.f6.body.getD .skip) && chkRS prog r_headgatelaw06_wakes Tryd.f6.results.toList) = true := by kernel_rfl
theorem mk_headgatelaw06_wakes {G : Glob} {args : List SV} {H : List SO} {K Kp : SV → List SO → Prop} (hl : args.length = 0) (h : VFun prog G 59 s_headgatelaw06_wakes r_headgatelaw06_wakes args H K Kp) : Con prog G 6 args H K Kp := by
  subst_vars
  exact con_of_vc (fn := Tryd.f6) (sc := s_headgatelaw06_wakes) (rs := r_headgatelaw06_wakes) rfl Tryd.func6 rfl (by rw [hl]; exact chk_headgatelaw06_wakes) (by rw [hl]; exact h)

end Go.V
