/- Symbolic code. -/
import Derived.Test.YtfdjmooifnmanaaDoorK
namespace Go.V
open Go.Proofs
/- headgate/dev.New; loops: []; slots [(sectors, 0), (sectors, 1)] -/
def s_dev_New : SCode :=
 (.seq (.reg false [] (.w 0 ⟨(some 2), none, .mv (.c .nilp)⟩
  (.w 1 ⟨(some 3), none, .mv (.c (.int .i64 0))⟩
  .done)) (some [0]))
 (.seq (.seq (.reg false [] (.w 0 ⟨(some 4), none, .mv (.t 0)⟩
  (.w 1 ⟨(some 5), none, .bin .lss .i (.t 4) (.c (.int .i64 1))⟩
  (.w 2 ⟨(some 6), none, .mv (.t 5)⟩
  (.w 3 ⟨(some 7), (some (6, false)), .mv (.t 0)⟩
  (.w 4 ⟨(some 8), (some (6, false)), .bin .gtr .i (.t 7) (.c (.int .i64 8192))⟩
  (.w 5 ⟨(some 9), none, .pick (.t 6) (.c (.bool true)) (.t 8)⟩
  .done)))))) (some [0, 9]))
 (.cond (.t 9) (.seq (.reg false [] (.w 0 ⟨(some 2), none, .mv (.c .nilp)⟩
  (.w 1 ⟨(some 3), none, .mv (.c (.int .i64 1))⟩
  .done)) (some [2, 3]))
 .ret)
 .skip))
 (.seq (.reg true [[], [0], [], [2], [0, 1, 2, 3], [0, 1, 2, 3, 4], [0, 1, 2, 3, 4, 5], [0, 1, 2, 3, 4, 5, 6]] (.w 0 ⟨(some 10), none, .mv (.t 0)⟩
  (.w 2 ⟨(some 12), none, .mv (.t 0)⟩
  (.l 1 ⟨(some 11), none, .mks (strC ty_string) (strC ty_string).dflt 16 (.t 10)⟩ []
  (.l 3 ⟨(some 13), none, .mks (strC ty_string) (strC ty_string).dflt 16 (.t 12)⟩ []
  (.w 4 ⟨(some 14), none, .bld [.nils, .nils, .nils, (.int .i64 0), (.bool false), (.int .i64 0), (.bool false)] [(0, 1, (.t 11)), (1, 1, (.t 13))]⟩
  (.l 5 ⟨(some 15), none, .box (.t 14)⟩ []
  (.w 6 ⟨(some 2), none, .mv (.t 15)⟩
  (.w 7 ⟨(some 3), none, .mv (.c (.int .i64 0))⟩
  .done)) .stop)) .stop) (.l 3 ⟨(some 13), none, .mks (strC ty_string) (strC ty_string).dflt 16 (.t 12)⟩ []
  (.l 1 ⟨(some 11), none, .mks (strC ty_string) (strC ty_string).dflt 16 (.t 10)⟩ []
  (.w 4 ⟨(some 14), none, .bld [.nils, .nils, .nils, (.int .i64 0), (.bool false), (.int .i64 0), (.bool false)] [(0, 1, (.t 11)), (1, 1, (.t 13))]⟩
  (.l 5 ⟨(some 15), none, .box (.t 14)⟩ []
  (.w 6 ⟨(some 2), none, .mv (.t 15)⟩
  (.w 7 ⟨(some 3), none, .mv (.c (.int .i64 0))⟩
  .done)) .stop)) .stop) .stop)))) (some [2, 3]))
 .ret)))
def r_dev_New : List RS := [.t 2, .t 3]
theorem chk_dev_New : (chkC prog (max Tryd.f8.ntmps 1) s_dev_New (Tryd.f8.body.getD .skip) && chkRS prog r_dev_New Tryd.f8.results.toList) = true := by kernel_rfl
theorem mk_dev_New {G : Glob} {args : List SV} {H : List SO} {K Kp : SV → List SO → Prop} (hl : args.length = 1) (h : VFun prog G 16 s_dev_New r_dev_New args H K Kp) : Con prog G 8 args H K Kp := by
  subst_vars
  exact con_of_vc (fn := Tryd.f8) (sc := s_dev_New) (rs := r_dev_New) rfl Tryd.func8 rfl (by rw [hl]; exact chk_dev_New) (by rw [hl]; exact h)

/- (*headgate/dev.Dev).Arm; loops: []; slots [(d, 0), (n, 1), (d, 2), (n, 3)] -/
def s_dev_Dev_Arm : SCode :=
 (.seq (.reg false [] (.w 0 ⟨(some 4), none, .mv (.t 0)⟩
  (.w 1 ⟨(some 5), none, .bin .neq .p (.t 4) (.c .nilp)⟩
  .done)) (some [0, 1, 5]))
 (.cond (.t 5) (.reg false [] (.w 0 ⟨(some 6), none, .mv (.t 0)⟩
  (.w 1 ⟨(some 7), none, .mv (.t 0)⟩
  (.w 2 ⟨(some 8), none, .mv (.t 1)⟩
  (.w 3 ⟨(some 9), none, .mm true [(.t 8), (.c (.int .i64 0))]⟩
  (.w 4 ⟨(some 10), none, .nilc (.t 6)⟩
  (.w 5 ⟨(some 11), none, .fa (.t 10) 4⟩
  (.l 6 ⟨none, none, .st 1 (.t 11) (.c (.bool true))⟩ []
  (.w 7 ⟨(some 12), none, .nilc (.t 7)⟩
  (.w 8 ⟨(some 13), none, .fa (.t 12) 5⟩
  (.l 9 ⟨none, none, .st 1 (.t 13) (.t 9)⟩ []
  .done .stop))) .stop))))))) (some []))
 .skip))
def r_dev_Dev_Arm : List RS := []
theorem chk_dev_Dev_Arm : (chkC prog (max Tryd.f18.ntmps 2) s_dev_Dev_Arm (Tryd.f18.body.getD .skip) && chkRS prog r_dev_Dev_Arm Tryd.f18.results.toList) = true := by kernel_rfl
theorem mk_dev_Dev_Arm {G : Glob} {args : List SV} {H : List SO} {K Kp : SV → List SO → Prop} (hl : args.length = 2) (h : VFun prog G 14 s_dev_Dev_Arm r_dev_Dev_Arm args H K Kp) : Con prog G 18 args H K Kp := by
  subst_vars
  exact con_of_vc (fn := Tryd.f18) (sc := s_dev_Dev_Arm) (rs := r_dev_Dev_Arm) rfl Tryd.func18 rfl (by rw [hl]; exact chk_dev_Dev_Arm) (by rw [hl]; exact h)

/- (*headgate/dev.Dev).Crash; loops: [[0, 1, 14, 15, 16], [0, 1, 31, 32, 33]]; slots [(d, 0), (keep, 1), (d, 2), (keep, 3), (_, 4), (x, 5), (i, 6), (x, 7), (n, 8)] -/
def s_dev_Dev_Crash : SCode :=
 (.seq (.seq (.reg false [] (.w 0 ⟨(some 9), none, .mv (.t 0)⟩
  (.w 1 ⟨(some 10), none, .bin .eql .p (.t 9) (.c .nilp)⟩
  .done)) (some [0, 1, 10]))
 (.cond (.t 10) .ret
 .skip))
 (.seq (.seq (.reg false [] (.w 0 ⟨(some 11), none, .mv (.t 0)⟩
  (.w 1 ⟨(some 12), none, .nilc (.t 11)⟩
  (.w 2 ⟨(some 13), none, .fa (.t 12) 2⟩
  (.rd 3 ⟨(some 14), none, .ld (.t 13) 1 false⟩
  (.w 4 ⟨(some 15), none, .len true (.t 14)⟩
  (.w 5 ⟨(some 16), none, .mv (.c (.int .i64 0))⟩
  .done)))))) (some [0, 1, 14, 15, 16]))
 (.block 0 (.loop (.seq (.reg false [] (.w 0 ⟨(some 17), none, .bin .lss .i (.t 16) (.t 15)⟩
  .done) (some [0, 1, 14, 15, 16, 17]))
 (.seq (.cond (.t 17) .skip
 (.exit 0))
 (.seq (.block 1 (.seq (.reg false [] (.w 0 ⟨(some 18), none, .ia (.t 14) (.t 16) 2⟩
  (.rd 1 ⟨(some 19), none, .ld (.t 18) 2 true⟩
  (.l 2 ⟨(some 5), none, .alloc [(.int .i64 0), (.str [])]⟩ []
  (.l 3 ⟨none, none, .st 2 (.t 5) (.t 19)⟩ []
  .done .stop) .stop))) (some [0, 1, 5, 14, 15, 16]))
 (.reg true [[], [0], [0, 1], [0, 1, 2], [], [4], [0, 1, 2, 3, 4, 5], [0, 1, 2, 3, 4, 5, 6]] (.w 0 ⟨(some 20), none, .mv (.t 0)⟩
  (.w 1 ⟨(some 21), none, .nilc (.t 20)⟩
  (.w 2 ⟨(some 22), none, .fa (.t 21) 1⟩
  (.rd 3 ⟨(some 23), none, .ld (.t 22) 1 false⟩
  (.w 4 ⟨(some 24), none, .fa (.t 5) 0⟩
  (.rd 5 ⟨(some 25), none, .ld (.t 24) 1 false⟩
  (.w 6 ⟨(some 26), none, .ia (.t 23) (.t 25) 1⟩
  (.l 7 ⟨none, none, .st 1 (.t 26) (.c (.str []))⟩ []
  .done .stop)))))))) (some [0, 1, 14, 15, 16]))))
 (.reg false [] (.w 0 ⟨(some 27), none, .bin .add .i (.t 16) (.c (.int .i64 1))⟩
  (.w 1 ⟨(some 16), none, .mv (.t 27)⟩
  .done)) (some [0, 1, 14, 15, 16]))))))))
 (.seq (.seq (.reg false [] (.w 0 ⟨(some 28), none, .mv (.t 0)⟩
  (.w 1 ⟨(some 29), none, .nilc (.t 28)⟩
  (.w 2 ⟨(some 30), none, .fa (.t 29) 2⟩
  (.rd 3 ⟨(some 31), none, .ld (.t 30) 1 false⟩
  (.w 4 ⟨(some 32), none, .len true (.t 31)⟩
  (.w 5 ⟨(some 33), none, .mv (.c (.int .i64 0))⟩
  .done)))))) (some [0, 1, 31, 32, 33]))
 (.block 2 (.loop (.seq (.reg false [] (.w 0 ⟨(some 34), none, .bin .lss .i (.t 33) (.t 32)⟩
  .done) (some [0, 1, 31, 32, 33, 34]))
 (.seq (.cond (.t 34) .skip
 (.exit 2))
 (.seq (.block 3 (.seq (.reg false [] (.w 0 ⟨(some 35), none, .mv (.t 33)⟩
  (.w 1 ⟨(some 36), none, .ia (.t 31) (.t 33) 2⟩
  (.rd 2 ⟨(some 37), none, .ld (.t 36) 2 true⟩
  (.l 3 ⟨(some 7), none, .alloc [(.int .i64 0), (.str [])]⟩ []
  (.w 4 ⟨(some 6), none, .mv (.t 35)⟩
  (.l 5 ⟨none, none, .st 2 (.t 7) (.t 37)⟩ []
  .done .stop)) .stop)))) (some [0, 1, 6, 7, 31, 32, 33]))
 (.seq (.reg false [] (.w 0 ⟨(some 8), none, .mv (.c (.int .i64 0))⟩
  .done) (some [0, 1, 6, 7, 8, 31, 32, 33]))
 (.seq (.seq (.reg false [] (.w 0 ⟨(some 38), none, .mv (.t 6)⟩
  (.w 1 ⟨(some 39), none, .mv (.t 1)⟩
  (.w 2 ⟨(some 40), none, .len true (.t 39)⟩
  (.w 3 ⟨(some 41), none, .bin .lss .i (.t 38) (.t 40)⟩
  .done)))) (some [0, 1, 6, 7, 8, 31, 32, 33, 41]))
 (.cond (.t 41) (.reg false [] (.w 0 ⟨(some 42), none, .mv (.t 1)⟩
  (.w 1 ⟨(some 43), none, .mv (.t 6)⟩
  (.w 2 ⟨(some 44), none, .ia (.t 42) (.t 43) 1⟩
  (.rd 3 ⟨(some 45), none, .ld (.t 44) 1 false⟩
  (.w 4 ⟨(some 46), none, .mm true [(.t 45), (.c (.int .i64 0))]⟩
  (.w 5 ⟨(some 47), none, .mm false [(.t 46), (.c (.int .i64 512))]⟩
  (.w 6 ⟨(some 8), none, .mv (.t 47)⟩
  .done))))))) (some [0, 1, 7, 8, 31, 32, 33]))
 .skip))
 (.reg true [[], [0], [0, 1], [0, 1, 2], [], [4], [], [6], [], [6, 7, 8], [], [], [11], [10, 11, 12], [], [10, 11, 12, 13, 14], [6, 7, 8, 9, 10, 11, 12, 13, 14, 15], [0, 1, 2, 3, 4, 5, 6, 7, 8, 9, 10, 11, 12, 13, 14, 15, 16], [0, 1, 2, 3, 4, 5, 6, 7, 8, 9, 10, 11, 12, 13, 14, 15, 16, 17]] (.w 0 ⟨(some 48), none, .mv (.t 0)⟩
  (.w 1 ⟨(some 49), none, .nilc (.t 48)⟩
  (.w 2 ⟨(some 50), none, .fa (.t 49) 1⟩
  (.rd 3 ⟨(some 51), none, .ld (.t 50) 1 false⟩
  (.w 4 ⟨(some 52), none, .fa (.t 7) 0⟩
  (.rd 5 ⟨(some 53), none, .ld (.t 52) 1 false⟩
  (.w 6 ⟨(some 54), none, .fa (.t 7) 1⟩
  (.rd 7 ⟨(some 55), none, .ld (.t 54) 1 false⟩
  (.w 8 ⟨(some 56), none, .mv (.t 8)⟩
  (.w 9 ⟨(some 57), none, .sub (.t 55) none (some (.t 56))⟩
  (.w 10 ⟨(some 58), none, .mv (.t 0)⟩
  (.w 11 ⟨(some 59), none, .fa (.t 7) 0⟩
  (.rd 12 ⟨(some 60), none, .ld (.t 59) 1 false⟩
  (.w 14 ⟨(some 62), none, .mv (.t 8)⟩
  (.l 13 ⟨(some 61), none, .call 32 [(.t 58), (.t 60)]⟩ [(3, ⟨(some 51), none, .ld (.t 50) 1 false⟩), (5, ⟨(some 53), none, .ld (.t 52) 1 false⟩), (7, ⟨(some 55), none, .ld (.t 54) 1 false⟩)]
  (.w 15 ⟨(some 63), none, .sub (.t 61) (some (.t 62)) none⟩
  (.w 16 ⟨(some 64), none, .bin .add .s (.t 57) (.t 63)⟩
  (.w 17 ⟨(some 65), none, .ia (.t 51) (.t 53) 1⟩
  (.l 18 ⟨none, none, .st 1 (.t 65) (.t 64)⟩ []
  .done .stop)))) .stop))))))))))))))) (some [0, 1, 31, 32, 33]))))))
 (.reg false [] (.w 0 ⟨(some 66), none, .bin .add .i (.t 33) (.c (.int .i64 1))⟩
  (.w 1 ⟨(some 33), none, .mv (.t 66)⟩
  .done)) (some [0, 1, 31, 32, 33]))))))))
 (.seq (.reg false [] (.w 0 ⟨(some 67), none, .mv (.t 0)⟩
  (.l 1 ⟨(some 68), none, .call 33 [(.t 67)]⟩ []
  .done .stop)) (some [0]))
 (.reg false [] (.w 0 ⟨(some 69), none, .mv (.t 0)⟩
  (.w 1 ⟨(some 70), none, .mv (.t 0)⟩
  (.w 2 ⟨(some 71), none, .nilc (.t 69)⟩
  (.w 3 ⟨(some 72), none, .fa (.t 71) 6⟩
  (.l 4 ⟨none, none, .st 1 (.t 72) (.c (.bool false))⟩ []
  (.w 5 ⟨(some 73), none, .nilc (.t 70)⟩
  (.w 6 ⟨(some 74), none, .fa (.t 73) 4⟩
  (.l 7 ⟨none, none, .st 1 (.t 74) (.c (.bool false))⟩ []
  .done .stop))) .stop))))) (some []))))))
def r_dev_Dev_Crash : List RS := []
theorem chk_dev_Dev_Crash : (chkC prog (max Tryd.f19.ntmps 2) s_dev_Dev_Crash (Tryd.f19.body.getD .skip) && chkRS prog r_dev_Dev_Crash Tryd.f19.results.toList) = true := by kernel_rfl
theorem mk_dev_Dev_Crash {G : Glob} {args : List SV} {H : List SO} {K Kp : SV → List SO → Prop} (hl : args.length = 2) (h : VFun prog G 75 s_dev_Dev_Crash r_dev_Dev_Crash args H K Kp) : Con prog G 19 args H K Kp := by
  subst_vars
  exact con_of_vc (fn := Tryd.f19) (sc := s_dev_Dev_Crash) (rs := r_dev_Dev_Crash) rfl Tryd.func19 rfl (by rw [hl]; exact chk_dev_Dev_Crash) (by rw [hl]; exact h)

/- (*headgate/dev.Dev).Read; loops: [[0, 1, 8, 45, 46]]; slots [(d, 0), (at, 1), (n, 2), (d, 3), (at, 4), (n, 5), (b, 8), (i, 9)] -/
def s_dev_Dev_Read : SCode :=
 (.seq (.reg false [] (.w 0 ⟨(some 6), none, .mv (.c (.str []))⟩
  (.w 1 ⟨(some 7), none, .mv (.c (.int .i64 0))⟩
  .done)) (some [0, 1, 2]))
 (.seq (.block 0 (.seq (.reg false [] (.w 0 ⟨(some 11), none, .mv (.t 0)⟩
  (.w 1 ⟨(some 12), none, .bin .eql .p (.t 11) (.c .nilp)⟩
  (.w 2 ⟨(some 10), none, .mv (.t 12)⟩
  .done))) (some [0, 1, 2, 10]))
 (.cond (.t 10) (.seq (.reg false [] (.w 0 ⟨(some 6), none, .mv (.c (.str []))⟩
  (.w 1 ⟨(some 7), none, .mv (.c (.int .i64 1))⟩
  .done)) (some [6, 7]))
 .ret)
 (.seq (.reg false [] (.w 0 ⟨(some 14), none, .mv (.t 1)⟩
  (.w 1 ⟨(some 15), none, .bin .lss .i (.t 14) (.c (.int .i64 0))⟩
  (.w 2 ⟨(some 16), none, .mv (.t 15)⟩
  (.w 3 ⟨(some 17), (some (16, false)), .mv (.t 2)⟩
  (.w 4 ⟨(some 18), (some (16, false)), .bin .lss .i (.t 17) (.c (.int .i64 0))⟩
  (.w 5 ⟨(some 19), none, .pick (.t 16) (.c (.bool true)) (.t 18)⟩
  (.w 6 ⟨(some 20), none, .mv (.t 19)⟩
  (.w 7 ⟨(some 21), (some (20, false)), .mv (.t 1)⟩
  (.w 8 ⟨(some 22), (some (20, false)), .mv (.t 0)⟩
  (.w 9 ⟨(some 23), (some (20, false)), .nilc (.t 22)⟩
  (.w 10 ⟨(some 24), (some (20, false)), .fa (.t 23) 0⟩
  (.rd 11 ⟨(some 25), (some (20, false)), .ld (.t 24) 1 false⟩
  (.w 12 ⟨(some 26), (some (20, false)), .len true (.t 25)⟩
  (.w 13 ⟨(some 27), (some (20, false)), .bin .gtr .i (.t 21) (.t 26)⟩
  (.w 14 ⟨(some 28), none, .pick (.t 20) (.c (.bool true)) (.t 27)⟩
  (.w 15 ⟨(some 29), none, .mv (.t 28)⟩
  (.w 16 ⟨(some 30), (some (29, false)), .mv (.t 2)⟩
  (.w 17 ⟨(some 31), (some (29, false)), .mv (.t 0)⟩
  (.w 18 ⟨(some 32), (some (29, false)), .nilc (.t 31)⟩
  (.w 19 ⟨(some 33), (some (29, false)), .fa (.t 32) 0⟩
  (.rd 20 ⟨(some 34), (some (29, false)), .ld (.t 33) 1 false⟩
  (.w 21 ⟨(some 35), (some (29, false)), .len true (.t 34)⟩
  (.w 22 ⟨(some 36), (some (29, false)), .mv (.t 1)⟩
  (.w 23 ⟨(some 37), (some (29, false)), .bin .sub .i (.t 35) (.t 36)⟩
  (.w 24 ⟨(some 38), (some (29, false)), .bin .gtr .i (.t 30) (.t 37)⟩
  (.w 25 ⟨(some 39), none, .pick (.t 29) (.c (.bool true)) (.t 38)⟩
  (.w 26 ⟨(some 13), none, .mv (.t 39)⟩
  .done))))))))))))))))))))))))))) (some [0, 1, 2, 13]))
 (.cond (.t 13) (.seq (.reg false [] (.w 0 ⟨(some 6), none, .mv (.c (.str []))⟩
  (.w 1 ⟨(some 7), none, .mv (.c (.int .i64 40))⟩
  .done)) (some [6, 7]))
 .ret)
 (.seq (.reg false [] (.w 0 ⟨(some 41), none, .mv (.t 0)⟩
  (.w 1 ⟨(some 42), none, .nilc (.t 41)⟩
  (.w 2 ⟨(some 43), none, .fa (.t 42) 6⟩
  (.rd 3 ⟨(some 44), none, .ld (.t 43) 1 false⟩
  (.w 4 ⟨(some 40), none, .mv (.t 44)⟩
  .done))))) (some [0, 1, 2, 40]))
 (.cond (.t 40) (.seq (.reg false [] (.w 0 ⟨(some 6), none, .mv (.c (.str []))⟩
  (.w 1 ⟨(some 7), none, .mv (.c (.int .i64 41))⟩
  .done)) (some [6, 7]))
 .ret)
 .skip)))))))
 (.seq (.reg false [] (.l 0 ⟨(some 8), none, .alloct 80 [.nilp, .nils]⟩ []
  .done .stop) (some [0, 1, 2, 8]))
 (.seq (.seq (.reg false [] (.w 0 ⟨(some 45), none, .mv (.t 2)⟩
  (.w 1 ⟨(some 46), none, .mv (.c (.int .i64 0))⟩
  .done)) (some [0, 1, 8, 45, 46]))
 (.block 1 (.loop (.seq (.reg false [] (.w 0 ⟨(some 47), none, .bin .lss .i (.t 46) (.t 45)⟩
  .done) (some [0, 1, 8, 45, 46, 47]))
 (.seq (.cond (.t 47) .skip
 (.exit 1))
 (.seq (.block 2 (.seq (.reg false [] (.w 0 ⟨(some 48), none, .mv (.t 46)⟩
  (.w 1 ⟨(some 9), none, .mv (.t 48)⟩
  .done)) (some [0, 1, 8, 9, 45, 46]))
 (.reg false [] (.w 0 ⟨(some 49), none, .mv (.t 0)⟩
  (.w 1 ⟨(some 50), none, .mv (.t 1)⟩
  (.w 2 ⟨(some 51), none, .mv (.t 9)⟩
  (.w 3 ⟨(some 52), none, .bin .add .i (.t 50) (.t 51)⟩
  (.l 4 ⟨(some 53), none, .call 32 [(.t 49), (.t 52)]⟩ []
  (.l 5 ⟨(some 54), none, .call 38 [(.t 8), (.t 53)]⟩ []
  .done .stop) .stop))))) (some [0, 1, 8, 45, 46]))))
 (.reg false [] (.w 0 ⟨(some 55), none, .bin .add .i (.t 46) (.c (.int .i64 1))⟩
  (.w 1 ⟨(some 46), none, .mv (.t 55)⟩
  .done)) (some [0, 1, 8, 45, 46]))))))))
 (.seq (.reg false [] (.l 0 ⟨(some 56), none, .call 39 [(.t 8)]⟩ []
  (.w 1 ⟨(some 6), none, .mv (.t 56)⟩
  (.w 2 ⟨(some 7), none, .mv (.c (.int .i64 0))⟩
  .done)) .stop) (some [6, 7]))
 .ret)))))
def r_dev_Dev_Read : List RS := [.t 6, .t 7]
theorem chk_dev_Dev_Read : (chkC prog (max Tryd.f24.ntmps 3) s_dev_Dev_Read (Tryd.f24.body.getD .skip) && chkRS prog r_dev_Dev_Read Tryd.f24.results.toList) = true := by kernel_rfl
theorem mk_dev_Dev_Read {G : Glob} {args : List SV} {H : List SO} {K Kp : SV → List SO → Prop} (hl : args.length = 3) (h : VFun prog G 57 s_dev_Dev_Read r_dev_Dev_Read args H K Kp) : Con prog G 24 args H K Kp := by
  subst_vars
  exact con_of_vc (fn := Tryd.f24) (sc := s_dev_Dev_Read) (rs := r_dev_Dev_Read) rfl Tryd.func24 rfl (by rw [hl]; exact chk_dev_Dev_Read) (by rw [hl]; exact h)

/- (*headgate/dev.Dev).Write; loops: [[0, 1, 2, 50, 51]]; slots [(d, 0), (at, 1), (data, 2), (d, 3), (at, 4), (data, 5), (n, 7), (i, 8), (x, 9)] -/
def s_dev_Dev_Write : SCode :=
 (.seq (.reg false [] (.w 0 ⟨(some 6), none, .mv (.c (.int .i64 0))⟩
  .done) (some [0, 1, 2]))
 (.seq (.reg false [] (.w 0 ⟨(some 10), none, .mv (.t 2)⟩
  (.w 1 ⟨(some 11), none, .len false (.t 10)⟩
  (.w 2 ⟨(some 12), none, .bin .quo .i (.t 11) (.c (.int .i64 512))⟩
  (.w 3 ⟨(some 7), none, .mv (.t 12)⟩
  .done)))) (some [0, 1, 2, 7]))
 (.seq (.block 0 (.seq (.reg false [] (.w 0 ⟨(some 14), none, .mv (.t 0)⟩
  (.w 1 ⟨(some 15), none, .bin .eql .p (.t 14) (.c .nilp)⟩
  (.w 2 ⟨(some 13), none, .mv (.t 15)⟩
  .done))) (some [0, 1, 2, 7, 13]))
 (.cond (.t 13) (.seq (.reg false [] (.w 0 ⟨(some 6), none, .mv (.c (.int .i64 1))⟩
  .done) (some [6]))
 .ret)
 (.seq (.reg false [] (.w 0 ⟨(some 17), none, .mv (.t 2)⟩
  (.w 1 ⟨(some 18), none, .len false (.t 17)⟩
  (.w 2 ⟨(some 19), none, .bin .rem .i (.t 18) (.c (.int .i64 512))⟩
  (.w 3 ⟨(some 20), none, .bin .neq .i (.t 19) (.c (.int .i64 0))⟩
  (.w 4 ⟨(some 21), none, .mv (.t 20)⟩
  (.w 5 ⟨(some 22), (some (21, false)), .mv (.t 1)⟩
  (.w 6 ⟨(some 23), (some (21, false)), .bin .lss .i (.t 22) (.c (.int .i64 0))⟩
  (.w 7 ⟨(some 24), none, .pick (.t 21) (.c (.bool true)) (.t 23)⟩
  (.w 8 ⟨(some 25), none, .mv (.t 24)⟩
  (.w 9 ⟨(some 26), (some (25, false)), .mv (.t 1)⟩
  (.w 10 ⟨(some 27), (some (25, false)), .mv (.t 0)⟩
  (.w 11 ⟨(some 28), (some (25, false)), .nilc (.t 27)⟩
  (.w 12 ⟨(some 29), (some (25, false)), .fa (.t 28) 0⟩
  (.rd 13 ⟨(some 30), (some (25, false)), .ld (.t 29) 1 false⟩
  (.w 14 ⟨(some 31), (some (25, false)), .len true (.t 30)⟩
  (.w 15 ⟨(some 32), (some (25, false)), .bin .gtr .i (.t 26) (.t 31)⟩
  (.w 16 ⟨(some 33), none, .pick (.t 25) (.c (.bool true)) (.t 32)⟩
  (.w 17 ⟨(some 34), none, .mv (.t 33)⟩
  (.w 18 ⟨(some 35), (some (34, false)), .mv (.t 7)⟩
  (.w 19 ⟨(some 36), (some (34, false)), .mv (.t 0)⟩
  (.w 20 ⟨(some 37), (some (34, false)), .nilc (.t 36)⟩
  (.w 21 ⟨(some 38), (some (34, false)), .fa (.t 37) 0⟩
  (.rd 22 ⟨(some 39), (some (34, false)), .ld (.t 38) 1 false⟩
  (.w 23 ⟨(some 40), (some (34, false)), .len true (.t 39)⟩
  (.w 24 ⟨(some 41), (some (34, false)), .mv (.t 1)⟩
  (.w 25 ⟨(some 42), (some (34, false)), .bin .sub .i (.t 40) (.t 41)⟩
  (.w 26 ⟨(some 43), (some (34, false)), .bin .gtr .i (.t 35) (.t 42)⟩
  (.w 27 ⟨(some 44), none, .pick (.t 34) (.c (.bool true)) (.t 43)⟩
  (.w 28 ⟨(some 16), none, .mv (.t 44)⟩
  .done))))))))))))))))))))))))))))) (some [0, 1, 2, 7, 16]))
 (.cond (.t 16) (.seq (.reg false [] (.w 0 ⟨(some 6), none, .mv (.c (.int .i64 40))⟩
  .done) (some [6]))
 .ret)
 (.seq (.reg false [] (.w 0 ⟨(some 46), none, .mv (.t 0)⟩
  (.w 1 ⟨(some 47), none, .nilc (.t 46)⟩
  (.w 2 ⟨(some 48), none, .fa (.t 47) 6⟩
  (.rd 3 ⟨(some 49), none, .ld (.t 48) 1 false⟩
  (.w 4 ⟨(some 45), none, .mv (.t 49)⟩
  .done))))) (some [0, 1, 2, 7, 45]))
 (.cond (.t 45) (.seq (.reg false [] (.w 0 ⟨(some 6), none, .mv (.c (.int .i64 41))⟩
  .done) (some [6]))
 .ret)
 .skip)))))))
 (.seq (.seq (.reg false [] (.w 0 ⟨(some 50), none, .mv (.t 7)⟩
  (.w 1 ⟨(some 51), none, .mv (.c (.int .i64 0))⟩
  .done)) (some [0, 1, 2, 50, 51]))
 (.block 1 (.loop (.seq (.reg false [] (.w 0 ⟨(some 52), none, .bin .lss .i (.t 51) (.t 50)⟩
  .done) (some [0, 1, 2, 50, 51, 52]))
 (.seq (.cond (.t 52) .skip
 (.exit 1))
 (.seq (.block 2 (.seq (.reg false [] (.w 0 ⟨(some 53), none, .mv (.t 51)⟩
  (.w 1 ⟨(some 8), none, .mv (.t 53)⟩
  .done)) (some [0, 1, 2, 8, 50, 51]))
 (.seq (.seq (.reg false [] (.w 0 ⟨(some 54), none, .mv (.t 0)⟩
  (.l 1 ⟨(some 55), none, .call 44 [(.t 54)]⟩ []
  (.w 2 ⟨(some 56), none, .un .not (.t 55)⟩
  .done) .stop)) (some [0, 1, 2, 8, 50, 51, 56]))
 (.cond (.t 56) (.seq (.reg false [] (.w 0 ⟨(some 6), none, .mv (.c (.int .i64 41))⟩
  .done) (some [6]))
 .ret)
 .skip))
 (.seq (.reg false [] (.w 0 ⟨(some 57), none, .mv (.t 1)⟩
  (.w 1 ⟨(some 58), none, .mv (.t 8)⟩
  (.w 2 ⟨(some 59), none, .bin .add .i (.t 57) (.t 58)⟩
  (.w 3 ⟨(some 60), none, .mv (.t 2)⟩
  (.w 4 ⟨(some 61), none, .mv (.t 8)⟩
  (.w 5 ⟨(some 62), none, .bin .mul .i (.t 61) (.c (.int .i64 512))⟩
  (.w 6 ⟨(some 63), none, .mv (.t 8)⟩
  (.w 7 ⟨(some 64), none, .bin .add .i (.t 63) (.c (.int .i64 1))⟩
  (.w 8 ⟨(some 65), none, .bin .mul .i (.t 64) (.c (.int .i64 512))⟩
  (.w 9 ⟨(some 66), none, .sub (.t 60) (some (.t 62)) (some (.t 65))⟩
  (.w 10 ⟨(some 67), none, .bld [(.int .i64 0), (.str [])] [(0, 1, (.t 59)), (1, 1, (.t 66))]⟩
  (.l 11 ⟨(some 9), none, .alloc [(.int .i64 0), (.str [])]⟩ []
  (.l 12 ⟨none, none, .st 2 (.t 9) (.t 67)⟩ []
  .done .stop) .stop)))))))))))) (some [0, 1, 2, 9, 50, 51]))
 (.seq (.reg true [[], [], [1], [1, 2], [1, 2, 3], [], [5], [1, 2, 3, 4, 5, 6], [0, 1, 2, 3, 4, 5, 6, 7], [0, 1, 2, 3, 4, 5, 6, 7, 8], [0, 1, 2, 3, 4, 5, 6, 7, 8, 9]] (.w 0 ⟨(some 68), none, .mv (.t 0)⟩
  (.w 1 ⟨(some 69), none, .mv (.t 0)⟩
  (.w 2 ⟨(some 70), none, .nilc (.t 69)⟩
  (.w 3 ⟨(some 71), none, .fa (.t 70) 2⟩
  (.rd 4 ⟨(some 72), none, .ld (.t 71) 1 false⟩
  (.rd 5 ⟨(some 73), none, .ld (.t 9) 2 true⟩
  (.l 6 ⟨(some 74), none, .bsl heldC 1 [(0, 2, (.t 73))]⟩ [(4, ⟨(some 72), none, .ld (.t 71) 1 false⟩)]
  (.l 7 ⟨(some 75), none, .app 71 2 24 (.t 72) (.t 74)⟩ []
  (.w 8 ⟨(some 76), none, .nilc (.t 68)⟩
  (.w 9 ⟨(some 77), none, .fa (.t 76) 2⟩
  (.l 10 ⟨none, none, .st 1 (.t 77) (.t 75)⟩ []
  .done .stop))) .stop) .stop))))))) (some [0, 1, 2, 9, 50, 51]))
 (.reg true [[], [0], [0, 1], [0, 1, 2], [], [4], [], [6], [0, 1, 2, 3, 4, 5, 6, 7], [0, 1, 2, 3, 4, 5, 6, 7, 8]] (.w 0 ⟨(some 78), none, .mv (.t 0)⟩
  (.w 1 ⟨(some 79), none, .nilc (.t 78)⟩
  (.w 2 ⟨(some 80), none, .fa (.t 79) 1⟩
  (.rd 3 ⟨(some 81), none, .ld (.t 80) 1 false⟩
  (.w 4 ⟨(some 82), none, .fa (.t 9) 0⟩
  (.rd 5 ⟨(some 83), none, .ld (.t 82) 1 false⟩
  (.w 6 ⟨(some 84), none, .fa (.t 9) 1⟩
  (.rd 7 ⟨(some 85), none, .ld (.t 84) 1 false⟩
  (.w 8 ⟨(some 86), none, .ia (.t 81) (.t 83) 1⟩
  (.l 9 ⟨none, none, .st 1 (.t 86) (.t 85)⟩ []
  .done .stop)))))))))) (some [0, 1, 2, 50, 51])))))))
 (.reg false [] (.w 0 ⟨(some 87), none, .bin .add .i (.t 51) (.c (.int .i64 1))⟩
  (.w 1 ⟨(some 51), none, .mv (.t 87)⟩
  .done)) (some [0, 1, 2, 50, 51]))))))))
 (.seq (.reg false [] (.w 0 ⟨(some 6), none, .mv (.c (.int .i64 0))⟩
  .done) (some [6]))
 .ret)))))
def r_dev_Dev_Write : List RS := [.t 6]
theorem chk_dev_Dev_Write : (chkC prog (max Tryd.f29.ntmps 3) s_dev_Dev_Write (Tryd.f29.body.getD .skip) && chkRS prog r_dev_Dev_Write Tryd.f29.results.toList) = true := by kernel_rfl
theorem mk_dev_Dev_Write {G : Glob} {args : List SV} {H : List SO} {K Kp : SV → List SO → Prop} (hl : args.length = 3) (h : VFun prog G 88 s_dev_Dev_Write r_dev_Dev_Write args H K Kp) : Con prog G 29 args H K Kp := by
  subst_vars
  exact con_of_vc (fn := Tryd.f29) (sc := s_dev_Dev_Write) (rs := r_dev_Dev_Write) rfl Tryd.func29 rfl (by rw [hl]; exact chk_dev_Dev_Write) (by rw [hl]; exact h)

/- (*headgate/dev.Dev).sector; loops: []; slots [(d, 0), (at, 1), (d, 2), (at, 3)] -/
def s_dev_Dev_sector : SCode :=
 (.seq (.reg false [] (.w 0 ⟨(some 4), none, .mv (.c (.str []))⟩
  .done) (some [0, 1]))
 (.seq (.seq (.reg false [] (.w 0 ⟨(some 5), none, .mv (.t 0)⟩
  (.w 1 ⟨(some 6), none, .nilc (.t 5)⟩
  (.w 2 ⟨(some 7), none, .fa (.t 6) 1⟩
  (.rd 3 ⟨(some 8), none, .ld (.t 7) 1 false⟩
  (.w 4 ⟨(some 9), none, .mv (.t 1)⟩
  (.w 5 ⟨(some 10), none, .ia (.t 8) (.t 9) 1⟩
  (.rd 6 ⟨(some 11), none, .ld (.t 10) 1 false⟩
  (.w 7 ⟨(some 12), none, .bin .neq .s (.t 11) (.c (.str []))⟩
  .done)))))))) (some [0, 1, 12]))
 (.cond (.t 12) (.seq (.reg false [] (.w 0 ⟨(some 13), none, .mv (.t 0)⟩
  (.w 1 ⟨(some 14), none, .nilc (.t 13)⟩
  (.w 2 ⟨(some 15), none, .fa (.t 14) 1⟩
  (.rd 3 ⟨(some 16), none, .ld (.t 15) 1 false⟩
  (.w 4 ⟨(some 17), none, .mv (.t 1)⟩
  (.w 5 ⟨(some 18), none, .ia (.t 16) (.t 17) 1⟩
  (.rd 6 ⟨(some 19), none, .ld (.t 18) 1 false⟩
  (.w 7 ⟨(some 4), none, .mv (.t 19)⟩
  .done)))))))) (some [4]))
 .ret)
 .skip))
 (.seq (.reg false [] (.w 0 ⟨(some 20), none, .mv (.t 0)⟩
  (.w 1 ⟨(some 21), none, .mv (.t 1)⟩
  (.l 2 ⟨(some 22), none, .call 51 [(.t 20), (.t 21)]⟩ []
  (.w 3 ⟨(some 4), none, .mv (.t 22)⟩
  .done) .stop))) (some [4]))
 .ret)))
def r_dev_Dev_sector : List RS := [.t 4]
theorem chk_dev_Dev_sector : (chkC prog (max Tryd.f32.ntmps 2) s_dev_Dev_sector (Tryd.f32.body.getD .skip) && chkRS prog r_dev_Dev_sector Tryd.f32.results.toList) = true := by kernel_rfl
theorem mk_dev_Dev_sector {G : Glob} {args : List SV} {H : List SO} {K Kp : SV → List SO → Prop} (hl : args.length = 2) (h : VFun prog G 23 s_dev_Dev_sector r_dev_Dev_sector args H K Kp) : Con prog G 32 args H K Kp := by
  subst_vars
  exact con_of_vc (fn := Tryd.f32) (sc := s_dev_Dev_sector) (rs := r_dev_Dev_sector) rfl Tryd.func32 rfl (by rw [hl]; exact chk_dev_Dev_sector) (by rw [hl]; exact h)

/- (*headgate/dev.Dev).settle; loops: [[0, 7, 8, 9]]; slots [(d, 0), (d, 1), (_, 2), (x, 3)] -/
def s_dev_Dev_settle : SCode :=
 (.seq (.seq (.reg false [] (.w 0 ⟨(some 4), none, .mv (.t 0)⟩
  (.w 1 ⟨(some 5), none, .nilc (.t 4)⟩
  (.w 2 ⟨(some 6), none, .fa (.t 5) 2⟩
  (.rd 3 ⟨(some 7), none, .ld (.t 6) 1 false⟩
  (.w 4 ⟨(some 8), none, .len true (.t 7)⟩
  (.w 5 ⟨(some 9), none, .mv (.c (.int .i64 0))⟩
  .done)))))) (some [0, 7, 8, 9]))
 (.block 0 (.loop (.seq (.reg false [] (.w 0 ⟨(some 10), none, .bin .lss .i (.t 9) (.t 8)⟩
  .done) (some [0, 7, 8, 9, 10]))
 (.seq (.cond (.t 10) .skip
 (.exit 0))
 (.seq (.block 1 (.seq (.reg false [] (.w 0 ⟨(some 11), none, .ia (.t 7) (.t 9) 2⟩
  (.rd 1 ⟨(some 12), none, .ld (.t 11) 2 true⟩
  (.l 2 ⟨(some 3), none, .alloc [(.int .i64 0), (.str [])]⟩ []
  (.l 3 ⟨none, none, .st 2 (.t 3) (.t 12)⟩ []
  .done .stop) .stop))) (some [0, 3, 7, 8, 9]))
 (.seq (.reg true [[], [0], [0, 1], [0, 1, 2], [], [4], [0, 1, 2, 3, 4, 5], [0, 1, 2, 3, 4, 5, 6], [0, 1, 2, 3, 4, 5, 6, 7]] (.w 0 ⟨(some 13), none, .mv (.t 0)⟩
  (.w 1 ⟨(some 14), none, .nilc (.t 13)⟩
  (.w 2 ⟨(some 15), none, .fa (.t 14) 1⟩
  (.rd 3 ⟨(some 16), none, .ld (.t 15) 1 false⟩
  (.w 4 ⟨(some 17), none, .fa (.t 3) 0⟩
  (.rd 5 ⟨(some 18), none, .ld (.t 17) 1 false⟩
  (.w 6 ⟨(some 19), none, .ia (.t 16) (.t 18) 1⟩
  (.rd 7 ⟨(some 20), none, .ld (.t 19) 1 false⟩
  (.w 8 ⟨(some 21), none, .bin .neq .s (.t 20) (.c (.str []))⟩
  .done))))))))) (some [0, 3, 7, 8, 9, 21]))
 (.cond (.t 21) (.seq (.reg true [[], [0], [0, 1], [0, 1, 2], [], [4], [], [6], [6, 7], [6, 7, 8], [], [10], [6, 7, 8, 9, 10, 11], [6, 7, 8, 9, 10, 11, 12], [0, 1, 2, 3, 4, 5, 6, 7, 8, 9, 10, 11, 12, 13], [0, 1, 2, 3, 4, 5, 6, 7, 8, 9, 10, 11, 12, 13, 14]] (.w 0 ⟨(some 22), none, .mv (.t 0)⟩
  (.w 1 ⟨(some 23), none, .nilc (.t 22)⟩
  (.w 2 ⟨(some 24), none, .fa (.t 23) 0⟩
  (.rd 3 ⟨(some 25), none, .ld (.t 24) 1 false⟩
  (.w 4 ⟨(some 26), none, .fa (.t 3) 0⟩
  (.rd 5 ⟨(some 27), none, .ld (.t 26) 1 false⟩
  (.w 6 ⟨(some 28), none, .mv (.t 0)⟩
  (.w 7 ⟨(some 29), none, .nilc (.t 28)⟩
  (.w 8 ⟨(some 30), none, .fa (.t 29) 1⟩
  (.rd 9 ⟨(some 31), none, .ld (.t 30) 1 false⟩
  (.w 10 ⟨(some 32), none, .fa (.t 3) 0⟩
  (.rd 11 ⟨(some 33), none, .ld (.t 32) 1 false⟩
  (.w 12 ⟨(some 34), none, .ia (.t 31) (.t 33) 1⟩
  (.rd 13 ⟨(some 35), none, .ld (.t 34) 1 false⟩
  (.w 14 ⟨(some 36), none, .ia (.t 25) (.t 27) 1⟩
  (.l 15 ⟨none, none, .st 1 (.t 36) (.t 35)⟩ []
  .done .stop)))))))))))))))) (some [0, 3, 7, 8, 9]))
 (.reg true [[], [0], [0, 1], [0, 1, 2], [], [4], [0, 1, 2, 3, 4, 5], [0, 1, 2, 3, 4, 5, 6]] (.w 0 ⟨(some 37), none, .mv (.t 0)⟩
  (.w 1 ⟨(some 38), none, .nilc (.t 37)⟩
  (.w 2 ⟨(some 39), none, .fa (.t 38) 1⟩
  (.rd 3 ⟨(some 40), none, .ld (.t 39) 1 false⟩
  (.w 4 ⟨(some 41), none, .fa (.t 3) 0⟩
  (.rd 5 ⟨(some 42), none, .ld (.t 41) 1 false⟩
  (.w 6 ⟨(some 43), none, .ia (.t 40) (.t 42) 1⟩
  (.l 7 ⟨none, none, .st 1 (.t 43) (.c (.str []))⟩ []
  .done .stop)))))))) (some [0, 7, 8, 9])))
 .skip))))
 (.reg false [] (.w 0 ⟨(some 44), none, .bin .add .i (.t 9) (.c (.int .i64 1))⟩
  (.w 1 ⟨(some 9), none, .mv (.t 44)⟩
  .done)) (some [0, 7, 8, 9]))))))))
 (.reg false [] (.w 0 ⟨(some 45), none, .mv (.t 0)⟩
  (.w 1 ⟨(some 46), none, .nilc (.t 45)⟩
  (.w 2 ⟨(some 47), none, .fa (.t 46) 2⟩
  (.l 3 ⟨none, none, .st 1 (.t 47) (.c .nils)⟩ []
  .done .stop)))) (some [])))
def r_dev_Dev_settle : List RS := []
theorem chk_dev_Dev_settle : (chkC prog (max Tryd.f33.ntmps 1) s_dev_Dev_settle (Tryd.f33.body.getD .skip) && chkRS prog r_dev_Dev_settle Tryd.f33.results.toList) = true := by kernel_rfl
theorem mk_dev_Dev_settle {G : Glob} {args : List SV} {H : List SO} {K Kp : SV → List SO → Prop} (hl : args.length = 1) (h : VFun prog G 48 s_dev_Dev_settle r_dev_Dev_settle args H K Kp) : Con prog G 33 args H K Kp := by
  subst_vars
  exact con_of_vc (fn := Tryd.f33) (sc := s_dev_Dev_settle) (rs := r_dev_Dev_settle) rfl Tryd.func33 rfl (by rw [hl]; exact chk_dev_Dev_settle) (by rw [hl]; exact h)

/- (*headgate/dev.Dev).Size; loops: []; slots [(d, 0), (d, 1)] -/
def s_dev_Dev_Size : SCode :=
 (.seq (.reg false [] (.w 0 ⟨(some 2), none, .mv (.c (.int .i64 0))⟩
  .done) (some [0]))
 (.seq (.seq (.reg false [] (.w 0 ⟨(some 3), none, .mv (.t 0)⟩
  (.w 1 ⟨(some 4), none, .bin .eql .p (.t 3) (.c .nilp)⟩
  .done)) (some [0, 4]))
 (.cond (.t 4) (.seq (.reg false [] (.w 0 ⟨(some 2), none, .mv (.c (.int .i64 0))⟩
  .done) (some [2]))
 .ret)
 .skip))
 (.seq (.reg false [] (.w 0 ⟨(some 5), none, .mv (.t 0)⟩
  (.w 1 ⟨(some 6), none, .nilc (.t 5)⟩
  (.w 2 ⟨(some 7), none, .fa (.t 6) 0⟩
  (.rd 3 ⟨(some 8), none, .ld (.t 7) 1 false⟩
  (.w 4 ⟨(some 9), none, .len true (.t 8)⟩
  (.w 5 ⟨(some 2), none, .mv (.t 9)⟩
  .done)))))) (some [2]))
 .ret)))
def r_dev_Dev_Size : List RS := [.t 2]
theorem chk_dev_Dev_Size : (chkC prog (max Tryd.f34.ntmps 1) s_dev_Dev_Size (Tryd.f34.body.getD .skip) && chkRS prog r_dev_Dev_Size Tryd.f34.results.toList) = true := by kernel_rfl
theorem mk_dev_Dev_Size {G : Glob} {args : List SV} {H : List SO} {K Kp : SV → List SO → Prop} (hl : args.length = 1) (h : VFun prog G 10 s_dev_Dev_Size r_dev_Dev_Size args H K Kp) : Con prog G 34 args H K Kp := by
  subst_vars
  exact con_of_vc (fn := Tryd.f34) (sc := s_dev_Dev_Size) (rs := r_dev_Dev_Size) rfl Tryd.func34 rfl (by rw [hl]; exact chk_dev_Dev_Size) (by rw [hl]; exact h)

/- (*headgate/dev.Dev).Flush; loops: []; slots [(d, 0), (d, 1)] -/
def s_dev_Dev_Flush : SCode :=
 (.seq (.reg false [] (.w 0 ⟨(some 2), none, .mv (.c (.int .i64 0))⟩
  .done) (some [0]))
 (.seq (.seq (.reg false [] (.w 0 ⟨(some 3), none, .mv (.t 0)⟩
  (.w 1 ⟨(some 4), none, .bin .eql .p (.t 3) (.c .nilp)⟩
  .done)) (some [0, 4]))
 (.cond (.t 4) (.seq (.reg false [] (.w 0 ⟨(some 2), none, .mv (.c (.int .i64 1))⟩
  .done) (some [2]))
 .ret)
 .skip))
 (.seq (.seq (.reg false [] (.w 0 ⟨(some 5), none, .mv (.t 0)⟩
  (.l 1 ⟨(some 6), none, .call 44 [(.t 5)]⟩ []
  (.w 2 ⟨(some 7), none, .un .not (.t 6)⟩
  .done) .stop)) (some [0, 7]))
 (.cond (.t 7) (.seq (.reg false [] (.w 0 ⟨(some 2), none, .mv (.c (.int .i64 41))⟩
  .done) (some [2]))
 .ret)
 .skip))
 (.seq (.reg false [] (.w 0 ⟨(some 8), none, .mv (.t 0)⟩
  (.l 1 ⟨(some 9), none, .call 33 [(.t 8)]⟩ []
  .done .stop)) (some []))
 (.seq (.reg false [] (.w 0 ⟨(some 2), none, .mv (.c (.int .i64 0))⟩
  .done) (some [2]))
 .ret)))))
def r_dev_Dev_Flush : List RS := [.t 2]
theorem chk_dev_Dev_Flush : (chkC prog (max Tryd.f43.ntmps 1) s_dev_Dev_Flush (Tryd.f43.body.getD .skip) && chkRS prog r_dev_Dev_Flush Tryd.f43.results.toList) = true := by kernel_rfl
theorem mk_dev_Dev_Flush {G : Glob} {args : List SV} {H : List SO} {K Kp : SV → List SO → Prop} (hl : args.length = 1) (h : VFun prog G 10 s_dev_Dev_Flush r_dev_Dev_Flush args H K Kp) : Con prog G 43 args H K Kp := by
  subst_vars
  exact con_of_vc (fn := Tryd.f43) (sc := s_dev_Dev_Flush) (rs := r_dev_Dev_Flush) rfl Tryd.func43 rfl (by rw [hl]; exact chk_dev_Dev_Flush) (by rw [hl]; exact h)

/- (*headgate/dev.Dev).operation; loops: []; slots [(d, 0), (d, 1)] -/
def s_dev_Dev_operation : SCode :=
 (.seq (.reg false [] (.w 0 ⟨(some 2), none, .mv (.c (.bool false))⟩
  .done) (some [0]))
 (.seq (.seq (.reg false [] (.w 0 ⟨(some 3), none, .mv (.t 0)⟩
  (.w 1 ⟨(some 4), none, .nilc (.t 3)⟩
  (.w 2 ⟨(some 5), none, .fa (.t 4) 6⟩
  (.rd 3 ⟨(some 6), none, .ld (.t 5) 1 false⟩
  (.w 4 ⟨(some 7), none, .mv (.t 6)⟩
  (.w 5 ⟨(some 8), (some (7, false)), .mv (.t 0)⟩
  (.w 6 ⟨(some 9), (some (7, false)), .nilc (.t 8)⟩
  (.w 7 ⟨(some 10), (some (7, false)), .fa (.t 9) 4⟩
  (.rd 8 ⟨(some 11), (some (7, false)), .ld (.t 10) 1 false⟩
  (.w 9 ⟨(some 12), (some (7, false)), .mv (.t 11)⟩
  (.w 10 ⟨(some 13), (some (12, true)), .mv (.t 0)⟩
  (.w 11 ⟨(some 14), (some (12, true)), .nilc (.t 13)⟩
  (.w 12 ⟨(some 15), (some (12, true)), .fa (.t 14) 5⟩
  (.rd 13 ⟨(some 16), (some (12, true)), .ld (.t 15) 1 false⟩
  (.w 14 ⟨(some 17), (some (12, true)), .bin .eql .i (.t 16) (.c (.int .i64 0))⟩
  (.w 15 ⟨(some 18), (some (7, false)), .pick (.t 12) (.t 17) (.c (.bool false))⟩
  (.w 16 ⟨(some 19), none, .pick (.t 7) (.c (.bool true)) (.t 18)⟩
  .done))))))))))))))))) (some [0, 19]))
 (.cond (.t 19) (.seq (.reg false [] (.w 0 ⟨(some 20), none, .mv (.t 0)⟩
  (.w 1 ⟨(some 21), none, .nilc (.t 20)⟩
  (.w 2 ⟨(some 22), none, .fa (.t 21) 6⟩
  (.l 3 ⟨none, none, .st 1 (.t 22) (.c (.bool true))⟩ []
  .done .stop)))) (some []))
 (.seq (.reg false [] (.w 0 ⟨(some 2), none, .mv (.c (.bool false))⟩
  .done) (some [2]))
 .ret))
 .skip))
 (.seq (.reg false [] (.w 0 ⟨(some 23), none, .mv (.t 0)⟩
  (.w 1 ⟨(some 24), none, .nilc (.t 23)⟩
  (.w 2 ⟨(some 25), none, .fa (.t 24) 5⟩
  (.rd 3 ⟨(some 26), none, .ld (.t 25) 1 false⟩
  (.w 4 ⟨(some 27), none, .bin .sub .i (.t 26) (.c (.int .i64 1))⟩
  (.w 5 ⟨(some 28), none, .nilc (.t 23)⟩
  (.w 6 ⟨(some 29), none, .fa (.t 28) 5⟩
  (.l 7 ⟨none, none, .st 1 (.t 29) (.t 27)⟩ []
  .done .stop)))))))) (some [0]))
 (.seq (.reg false [] (.w 0 ⟨(some 30), none, .mv (.t 0)⟩
  (.w 1 ⟨(some 31), none, .nilc (.t 30)⟩
  (.w 2 ⟨(some 32), none, .fa (.t 31) 3⟩
  (.l 3 ⟨(some 33), none, .call 58 [(.t 32), (.c (.int .i64 1))]⟩ []
  .done .stop)))) (some []))
 (.seq (.reg false [] (.w 0 ⟨(some 2), none, .mv (.c (.bool true))⟩
  .done) (some [2]))
 .ret)))))
def r_dev_Dev_operation : List RS := [.t 2]
theorem chk_dev_Dev_operation : (chkC prog (max Tryd.f44.ntmps 1) s_dev_Dev_operation (Tryd.f44.body.getD .skip) && chkRS prog r_dev_Dev_operation Tryd.f44.results.toList) = true := by kernel_rfl
theorem mk_dev_Dev_operation {G : Glob} {args : List SV} {H : List SO} {K Kp : SV → List SO → Prop} (hl : args.length = 1) (h : VFun prog G 34 s_dev_Dev_operation r_dev_Dev_operation args H K Kp) : Con prog G 44 args H K Kp := by
  subst_vars
  exact con_of_vc (fn := Tryd.f44) (sc := s_dev_Dev_operation) (rs := r_dev_Dev_operation) rfl Tryd.func44 rfl (by rw [hl]; exact chk_dev_Dev_operation) (by rw [hl]; exact h)

/- (*headgate/dev.Dev).kept; loops: []; slots [(d, 0), (at, 1), (d, 2), (at, 3)] -/
def s_dev_Dev_kept : SCode :=
 (.seq (.reg false [] (.w 0 ⟨(some 4), none, .mv (.c (.str []))⟩
  .done) (some [0, 1]))
 (.seq (.seq (.reg false [] (.w 0 ⟨(some 5), none, .mv (.t 0)⟩
  (.w 1 ⟨(some 6), none, .nilc (.t 5)⟩
  (.w 2 ⟨(some 7), none, .fa (.t 6) 0⟩
  (.rd 3 ⟨(some 8), none, .ld (.t 7) 1 false⟩
  (.w 4 ⟨(some 9), none, .mv (.t 1)⟩
  (.w 5 ⟨(some 10), none, .ia (.t 8) (.t 9) 1⟩
  (.rd 6 ⟨(some 11), none, .ld (.t 10) 1 false⟩
  (.w 7 ⟨(some 12), none, .bin .neq .s (.t 11) (.c (.str []))⟩
  .done)))))))) (some [0, 1, 12]))
 (.cond (.t 12) (.seq (.reg false [] (.w 0 ⟨(some 13), none, .mv (.t 0)⟩
  (.w 1 ⟨(some 14), none, .nilc (.t 13)⟩
  (.w 2 ⟨(some 15), none, .fa (.t 14) 0⟩
  (.rd 3 ⟨(some 16), none, .ld (.t 15) 1 false⟩
  (.w 4 ⟨(some 17), none, .mv (.t 1)⟩
  (.w 5 ⟨(some 18), none, .ia (.t 16) (.t 17) 1⟩
  (.rd 6 ⟨(some 19), none, .ld (.t 18) 1 false⟩
  (.w 7 ⟨(some 4), none, .mv (.t 19)⟩
  .done)))))))) (some [4]))
 .ret)
 .skip))
 (.seq (.reg false [] (.l 0 ⟨(some 20), none, .mks (byteC ty_uint8) (byteC ty_uint8).dflt 1 (.c (.int .i64 512))⟩ []
  (.rd 1 ⟨(some 21), none, .b2s (.t 20)⟩
  (.w 2 ⟨(some 4), none, .mv (.t 21)⟩
  .done)) .stop) (some [4]))
 .ret)))
def r_dev_Dev_kept : List RS := [.t 4]
theorem chk_dev_Dev_kept : (chkC prog (max Tryd.f51.ntmps 2) s_dev_Dev_kept (Tryd.f51.body.getD .skip) && chkRS prog r_dev_Dev_kept Tryd.f51.results.toList) = true := by kernel_rfl
theorem mk_dev_Dev_kept {G : Glob} {args : List SV} {H : List SO} {K Kp : SV → List SO → Prop} (hl : args.length = 2) (h : VFun prog G 22 s_dev_Dev_kept r_dev_Dev_kept args H K Kp) : Con prog G 51 args H K Kp := by
  subst_vars
  exact con_of_vc (fn := Tryd.f51) (sc := s_dev_Dev_kept) (rs := r_dev_Dev_kept) rfl Tryd.func51 rfl (by rw [hl]; exact chk_dev_Dev_kept) (by rw [hl]; exact h)

end Go.V
