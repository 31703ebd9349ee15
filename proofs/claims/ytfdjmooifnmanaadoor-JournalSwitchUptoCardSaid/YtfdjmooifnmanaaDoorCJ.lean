/- Symbolic code. -/
import Derived.Test.YtfdjmooifnmanaaDoorK
namespace Go.V
open Go.Proofs
/- headgate/journal.Open; loops: [[0, 8, 9, 10, 30], [8, 16, 85, 86]]; slots [(d, 0), (from, 1), (sectors, 2), (d, 3), (from, 4), (sectors, 5), (j, 8), (best, 9), (frames, 10), (n, 11), (seq, 12), (half, 13), (many, 14), (err, 15), (s, 16), (err, 17), (i, 18), (_, 19), (text, 20), (size, 21), (err, 22), (err, 23)] -/
def s_journal_Open : SCode :=
 (.seq (.reg false [] (.w 0 ⟨(some 6), none, .mv (.c .nilp)⟩
  (.w 1 ⟨(some 7), none, .mv (.c (.int .i64 0))⟩
  .done)) (some [0, 1, 2]))
 (.seq (.reg false [] (.w 0 ⟨(some 24), none, .mv (.t 0)⟩
  (.w 1 ⟨(some 25), none, .mv (.t 1)⟩
  (.w 2 ⟨(some 26), none, .mv (.t 2)⟩
  (.l 3 ⟨(some 27), none, .call 21 [(.t 24), (.t 25), (.t 26)]⟩ []
  (.w 4 ⟨(some 8), none, .mv (.t 27)⟩
  .done) .stop)))) (some [0, 8]))
 (.seq (.seq (.reg false [] (.w 0 ⟨(some 28), none, .mv (.t 8)⟩
  (.w 1 ⟨(some 29), none, .bin .eql .p (.t 28) (.c .nilp)⟩
  .done)) (some [0, 8, 29]))
 (.cond (.t 29) (.seq (.reg false [] (.w 0 ⟨(some 6), none, .mv (.c .nilp)⟩
  (.w 1 ⟨(some 7), none, .mv (.c (.int .i64 1))⟩
  .done)) (some [6, 7]))
 .ret)
 .skip))
 (.seq (.reg false [] (.w 0 ⟨(some 9), none, .mv (.c (.int .i64 0))⟩
  (.w 1 ⟨(some 10), none, .mv (.c (.int .i64 0))⟩
  .done)) (some [0, 8, 9, 10]))
 (.seq (.seq (.reg false [] (.w 0 ⟨(some 30), none, .mv (.c (.int .i64 0))⟩
  .done) (some [0, 8, 9, 10, 30]))
 (.block 0 (.loop (.seq (.reg false [] (.w 0 ⟨(some 31), none, .bin .lss .i (.t 30) (.c (.int .i64 2))⟩
  .done) (some [0, 8, 9, 10, 30, 31]))
 (.seq (.cond (.t 31) .skip
 (.exit 0))
 (.seq (.block 1 (.seq (.reg false [] (.w 0 ⟨(some 32), none, .mv (.t 30)⟩
  (.w 1 ⟨(some 11), none, .mv (.t 32)⟩
  .done)) (some [0, 8, 9, 10, 11, 30]))
 (.seq (.reg false [] (.w 0 ⟨(some 34), none, .mv (.t 8)⟩
  (.w 1 ⟨(some 35), none, .mv (.t 11)⟩
  (.l 2 ⟨(some 36), none, .call 22 [(.t 34), (.t 35)]⟩ []
  (.w 3 ⟨(some 33), none, .mv (.t 36)⟩
  (.w 4 ⟨(some 37), none, .ext (.t 33) 0⟩
  (.w 5 ⟨(some 38), none, .ext (.t 33) 1⟩
  (.w 6 ⟨(some 39), none, .ext (.t 33) 2⟩
  (.w 7 ⟨(some 40), none, .ext (.t 33) 3⟩
  (.w 8 ⟨(some 12), none, .mv (.t 37)⟩
  (.w 9 ⟨(some 13), none, .mv (.t 38)⟩
  (.w 10 ⟨(some 14), none, .mv (.t 39)⟩
  (.w 11 ⟨(some 15), none, .mv (.t 40)⟩
  .done))))))))) .stop))) (some [0, 8, 9, 10, 11, 12, 13, 14, 15, 30]))
 (.seq (.seq (.reg false [] (.w 0 ⟨(some 41), none, .mv (.t 15)⟩
  (.w 1 ⟨(some 42), none, .bin .neq .i (.t 41) (.c (.int .i64 0))⟩
  .done)) (some [0, 8, 9, 10, 11, 12, 13, 14, 15, 30, 42]))
 (.cond (.t 42) (.seq (.reg false [] (.w 0 ⟨(some 43), none, .mv (.t 15)⟩
  (.w 1 ⟨(some 6), none, .mv (.c .nilp)⟩
  (.w 2 ⟨(some 7), none, .mv (.t 43)⟩
  .done))) (some [6, 7]))
 .ret)
 .skip))
 (.seq (.reg false [] (.w 0 ⟨(some 44), none, .mv (.t 12)⟩
  (.w 1 ⟨(some 45), none, .mv (.t 9)⟩
  (.w 2 ⟨(some 46), none, .bin .gtr .i (.t 44) (.t 45)⟩
  (.w 3 ⟨(some 47), none, .mv (.t 46)⟩
  (.w 4 ⟨(some 48), (some (47, true)), .mv (.t 12)⟩
  (.w 5 ⟨(some 49), (some (47, true)), .bin .rem .i (.t 48) (.c (.int .i64 2))⟩
  (.w 6 ⟨(some 50), (some (47, true)), .mv (.t 11)⟩
  (.w 7 ⟨(some 51), (some (47, true)), .bin .eql .i (.t 49) (.t 50)⟩
  (.w 8 ⟨(some 52), none, .pick (.t 47) (.t 51) (.c (.bool false))⟩
  .done))))))))) (some [0, 8, 9, 10, 12, 13, 14, 30, 52]))
 (.cond (.t 52) (.reg false [] (.w 0 ⟨(some 53), none, .mv (.t 8)⟩
  (.w 1 ⟨(some 54), none, .mv (.t 12)⟩
  (.w 2 ⟨(some 55), none, .mv (.t 14)⟩
  (.w 3 ⟨(some 56), none, .mv (.t 13)⟩
  (.w 4 ⟨(some 9), none, .mv (.t 54)⟩
  (.w 5 ⟨(some 10), none, .mv (.t 55)⟩
  (.w 6 ⟨(some 57), none, .nilc (.t 53)⟩
  (.w 7 ⟨(some 58), none, .fa (.t 57) 3⟩
  (.l 8 ⟨none, none, .st 1 (.t 58) (.t 56)⟩ []
  .done .stop))))))))) (some [0, 8, 9, 10, 30]))
 .skip))))))
 (.reg false [] (.w 0 ⟨(some 59), none, .bin .add .i (.t 30) (.c (.int .i64 1))⟩
  (.w 1 ⟨(some 30), none, .mv (.t 59)⟩
  .done)) (some [0, 8, 9, 10, 30]))))))))
 (.seq (.seq (.reg false [] (.w 0 ⟨(some 60), none, .mv (.t 9)⟩
  (.w 1 ⟨(some 61), none, .bin .eql .i (.t 60) (.c (.int .i64 0))⟩
  .done)) (some [0, 8, 9, 10, 61]))
 (.cond (.t 61) (.seq (.reg false [] (.w 0 ⟨(some 6), none, .mv (.c .nilp)⟩
  (.w 1 ⟨(some 7), none, .mv (.c (.int .i64 61))⟩
  .done)) (some [6, 7]))
 .ret)
 .skip))
 (.seq (.reg false [] (.w 0 ⟨(some 62), none, .mv (.t 8)⟩
  (.w 1 ⟨(some 63), none, .nilc (.t 62)⟩
  (.w 2 ⟨(some 64), none, .fa (.t 63) 4⟩
  (.w 3 ⟨(some 65), none, .mv (.t 9)⟩
  (.l 4 ⟨(some 66), none, .call 23 [(.t 64), (.t 65)]⟩ []
  .done .stop))))) (some [0, 8, 10]))
 (.seq (.reg true [[], [], [], [2], [2, 3], [2, 3, 4], [1, 2, 3, 4, 5], [], [7], [7, 8], [7, 8, 9], [0, 1, 2, 3, 4, 5, 6, 7, 8, 9, 10], [0, 1, 2, 3, 4, 5, 6, 7, 8, 9, 10, 11], [0, 1, 2, 3, 4, 5, 6, 7, 8, 9, 10, 11, 12], [0, 1, 2, 3, 4, 5, 6, 7, 8, 9, 10, 11, 12], [0, 1, 2, 3, 4, 5, 6, 7, 8, 9, 10, 11, 12, 13], [0, 1, 2, 3, 4, 5, 6, 7, 8, 9, 10, 11, 12, 13, 14, 15]] (.w 0 ⟨(some 68), none, .mv (.t 0)⟩
  (.w 1 ⟨(some 69), none, .mv (.t 8)⟩
  (.w 2 ⟨(some 70), none, .mv (.t 8)⟩
  (.w 3 ⟨(some 71), none, .nilc (.t 70)⟩
  (.w 4 ⟨(some 72), none, .fa (.t 71) 3⟩
  (.rd 5 ⟨(some 73), none, .ld (.t 72) 1 false⟩
  (.w 7 ⟨(some 75), none, .mv (.t 8)⟩
  (.w 8 ⟨(some 76), none, .nilc (.t 75)⟩
  (.w 9 ⟨(some 77), none, .fa (.t 76) 2⟩
  (.rd 10 ⟨(some 78), none, .ld (.t 77) 1 false⟩
  (.l 6 ⟨(some 74), none, .call 25 [(.t 69), (.t 73), (.c (.int .i64 0))]⟩ [(10, ⟨(some 78), none, .ld (.t 77) 1 false⟩)]
  (.l 11 ⟨(some 79), none, .call 24 [(.t 68), (.t 74), (.t 78)]⟩ []
  (.w 12 ⟨(some 67), none, .mv (.t 79)⟩
  (.w 13 ⟨(some 80), none, .ext (.t 67) 0⟩
  (.w 14 ⟨(some 81), none, .ext (.t 67) 1⟩
  (.w 15 ⟨(some 16), none, .mv (.t 80)⟩
  (.w 16 ⟨(some 17), none, .mv (.t 81)⟩
  .done))))) .stop) .stop))))))))))) (some [8, 10, 16, 17]))
 (.seq (.seq (.reg false [] (.w 0 ⟨(some 82), none, .mv (.t 17)⟩
  (.w 1 ⟨(some 83), none, .bin .neq .i (.t 82) (.c (.int .i64 0))⟩
  .done)) (some [8, 10, 16, 17, 83]))
 (.cond (.t 83) (.seq (.reg false [] (.w 0 ⟨(some 84), none, .mv (.t 17)⟩
  (.w 1 ⟨(some 6), none, .mv (.c .nilp)⟩
  (.w 2 ⟨(some 7), none, .mv (.t 84)⟩
  .done))) (some [6, 7]))
 .ret)
 .skip))
 (.seq (.seq (.reg false [] (.w 0 ⟨(some 85), none, .mv (.t 10)⟩
  (.w 1 ⟨(some 86), none, .mv (.c (.int .i64 0))⟩
  .done)) (some [8, 16, 85, 86]))
 (.block 2 (.loop (.seq (.reg false [] (.w 0 ⟨(some 87), none, .bin .lss .i (.t 86) (.t 85)⟩
  .done) (some [8, 16, 85, 86, 87]))
 (.seq (.cond (.t 87) .skip
 (.exit 2))
 (.seq (.block 3 (.seq (.reg false [] (.w 0 ⟨(some 88), none, .mv (.t 86)⟩
  (.w 1 ⟨(some 18), none, .mv (.t 88)⟩
  .done)) (some [8, 16, 18, 85, 86]))
 (.seq (.reg false [] (.w 0 ⟨(some 90), none, .mv (.t 16)⟩
  (.l 1 ⟨(some 91), none, .call 26 [(.t 90)]⟩ []
  (.w 2 ⟨(some 89), none, .mv (.t 91)⟩
  (.w 3 ⟨(some 92), none, .ext (.t 89) 0⟩
  (.w 4 ⟨(some 93), none, .ext (.t 89) 1⟩
  (.w 5 ⟨(some 94), none, .ext (.t 89) 2⟩
  (.w 6 ⟨(some 95), none, .ext (.t 89) 3⟩
  (.w 7 ⟨(some 19), none, .mv (.t 92)⟩
  (.w 8 ⟨(some 20), none, .mv (.t 93)⟩
  (.w 9 ⟨(some 21), none, .mv (.t 94)⟩
  (.w 10 ⟨(some 22), none, .mv (.t 95)⟩
  .done))))))))) .stop)) (some [8, 16, 18, 20, 21, 22, 85, 86]))
 (.seq (.seq (.reg false [] (.w 0 ⟨(some 96), none, .mv (.t 22)⟩
  (.w 1 ⟨(some 97), none, .bin .neq .i (.t 96) (.c (.int .i64 0))⟩
  .done)) (some [8, 16, 18, 20, 21, 85, 86, 97]))
 (.cond (.t 97) (.seq (.reg false [] (.w 0 ⟨(some 6), none, .mv (.c .nilp)⟩
  (.w 1 ⟨(some 7), none, .mv (.c (.int .i64 61))⟩
  .done)) (some [6, 7]))
 .ret)
 .skip))
 (.seq (.seq (.reg false [] (.w 0 ⟨(some 98), none, .mv (.t 18)⟩
  (.w 1 ⟨(some 99), none, .bin .eql .i (.t 98) (.c (.int .i64 0))⟩
  .done)) (some [8, 16, 20, 21, 85, 86, 99]))
 (.cond (.t 99) (.reg false [] (.w 0 ⟨(some 100), none, .mv (.t 8)⟩
  (.w 1 ⟨(some 101), none, .mv (.t 20)⟩
  (.w 2 ⟨(some 102), none, .nilc (.t 100)⟩
  (.w 3 ⟨(some 103), none, .fa (.t 102) 5⟩
  (.l 4 ⟨none, none, .st 1 (.t 103) (.t 101)⟩ []
  .done .stop))))) (some [8, 16, 21, 85, 86]))
 (.reg false [] (.w 0 ⟨(some 104), none, .mv (.t 8)⟩
  (.w 1 ⟨(some 105), none, .mv (.t 8)⟩
  (.w 2 ⟨(some 106), none, .nilc (.t 105)⟩
  (.w 3 ⟨(some 107), none, .fa (.t 106) 6⟩
  (.rd 4 ⟨(some 108), none, .ld (.t 107) 1 false⟩
  (.w 5 ⟨(some 109), none, .mv (.t 20)⟩
  (.l 6 ⟨(some 110), none, .bsl (strC ty_string) 1 [(0, 1, (.t 109))]⟩ []
  (.l 7 ⟨(some 111), none, .app 9 1 16 (.t 108) (.t 110)⟩ []
  (.w 8 ⟨(some 112), none, .nilc (.t 104)⟩
  (.w 9 ⟨(some 113), none, .fa (.t 112) 6⟩
  (.l 10 ⟨none, none, .st 1 (.t 113) (.t 111)⟩ []
  .done .stop))) .stop) .stop))))))) (some [8, 16, 21, 85, 86]))))
 (.seq (.reg false [] (.w 0 ⟨(some 114), none, .mv (.t 8)⟩
  (.w 1 ⟨(some 115), none, .nilc (.t 114)⟩
  (.w 2 ⟨(some 116), none, .fa (.t 115) 7⟩
  (.rd 3 ⟨(some 117), none, .ld (.t 116) 1 false⟩
  (.w 4 ⟨(some 118), none, .mv (.t 21)⟩
  (.w 5 ⟨(some 119), none, .bin .quo .i (.t 118) (.c (.int .i64 512))⟩
  (.w 6 ⟨(some 120), none, .bin .add .i (.t 117) (.t 119)⟩
  (.w 7 ⟨(some 121), none, .nilc (.t 114)⟩
  (.w 8 ⟨(some 122), none, .fa (.t 121) 7⟩
  (.l 9 ⟨none, none, .st 1 (.t 122) (.t 120)⟩ []
  .done .stop)))))))))) (some [8, 16, 21, 85, 86]))
 (.reg false [] (.w 0 ⟨(some 123), none, .mv (.t 16)⟩
  (.w 1 ⟨(some 124), none, .mv (.t 21)⟩
  (.w 2 ⟨(some 125), none, .sub (.t 123) (some (.t 124)) none⟩
  (.w 3 ⟨(some 16), none, .mv (.t 125)⟩
  .done)))) (some [8, 16, 85, 86]))))))))
 (.reg false [] (.w 0 ⟨(some 126), none, .bin .add .i (.t 86) (.c (.int .i64 1))⟩
  (.w 1 ⟨(some 86), none, .mv (.t 126)⟩
  .done)) (some [8, 16, 85, 86]))))))))
 (.seq (.seq (.reg false [] (.w 0 ⟨(some 127), none, .mv (.t 8)⟩
  (.l 1 ⟨(some 128), none, .call 27 [(.t 127)]⟩ []
  (.w 2 ⟨(some 23), none, .mv (.t 128)⟩
  .done) .stop)) (some [8, 23]))
 (.seq (.reg false [] (.w 0 ⟨(some 129), none, .mv (.t 23)⟩
  (.w 1 ⟨(some 130), none, .bin .neq .i (.t 129) (.c (.int .i64 0))⟩
  .done)) (some [8, 23, 130]))
 (.cond (.t 130) (.seq (.reg false [] (.w 0 ⟨(some 131), none, .mv (.t 23)⟩
  (.w 1 ⟨(some 6), none, .mv (.c .nilp)⟩
  (.w 2 ⟨(some 7), none, .mv (.t 131)⟩
  .done))) (some [6, 7]))
 .ret)
 .skip)))
 (.seq (.reg false [] (.w 0 ⟨(some 132), none, .mv (.t 8)⟩
  (.w 1 ⟨(some 6), none, .mv (.t 132)⟩
  (.w 2 ⟨(some 7), none, .mv (.c (.int .i64 0))⟩
  .done))) (some [6, 7]))
 .ret))))))))))))
def r_journal_Open : List RS := [.t 6, .t 7]
theorem chk_journal_Open : (chkC prog (max Tryd.f9.ntmps 3) s_journal_Open (Tryd.f9.body.getD .skip) && chkRS prog r_journal_Open Tryd.f9.results.toList) = true := by kernel_rfl
theorem mk_journal_Open {G : Glob} {args : List SV} {H : List SO} {K Kp : SV → List SO → Prop} (hl : args.length = 3) (h : VFun prog G 133 s_journal_Open r_journal_Open args H K Kp) : Con prog G 9 args H K Kp := by
  subst_vars
  exact con_of_vc (fn := Tryd.f9) (sc := s_journal_Open) (rs := r_journal_Open) rfl Tryd.func9 rfl (by rw [hl]; exact chk_journal_Open) (by rw [hl]; exact h)

/- headgate/journal.Format; loops: []; slots [(d, 0), (from, 1), (sectors, 2), (base, 3), (d, 4), (from, 5), (sectors, 6), (base, 7), (j, 10), (err, 11), (err, 12), (err, 13), (err, 14)] -/
def s_journal_Format : SCode :=
 (.seq (.reg false [] (.w 0 ⟨(some 8), none, .mv (.c .nilp)⟩
  (.w 1 ⟨(some 9), none, .mv (.c (.int .i64 0))⟩
  .done)) (some [0, 1, 2, 3]))
 (.seq (.reg false [] (.w 0 ⟨(some 15), none, .mv (.t 0)⟩
  (.w 1 ⟨(some 16), none, .mv (.t 1)⟩
  (.w 2 ⟨(some 17), none, .mv (.t 2)⟩
  (.l 3 ⟨(some 18), none, .call 21 [(.t 15), (.t 16), (.t 17)]⟩ []
  (.w 4 ⟨(some 10), none, .mv (.t 18)⟩
  .done) .stop)))) (some [0, 1, 3, 10]))
 (.seq (.block 0 (.seq (.reg false [] (.w 0 ⟨(some 20), none, .mv (.t 10)⟩
  (.w 1 ⟨(some 21), none, .bin .eql .p (.t 20) (.c .nilp)⟩
  (.w 2 ⟨(some 19), none, .mv (.t 21)⟩
  .done))) (some [0, 1, 3, 10, 19]))
 (.cond (.t 19) (.seq (.reg false [] (.w 0 ⟨(some 8), none, .mv (.c .nilp)⟩
  (.w 1 ⟨(some 9), none, .mv (.c (.int .i64 1))⟩
  .done)) (some [8, 9]))
 .ret)
 (.seq (.reg false [] (.w 0 ⟨(some 23), none, .mv (.t 3)⟩
  (.w 1 ⟨(some 24), none, .len false (.t 23)⟩
  (.w 2 ⟨(some 25), none, .bin .gtr .i (.t 24) (.c (.int .i64 65536))⟩
  (.w 3 ⟨(some 22), none, .mv (.t 25)⟩
  .done)))) (some [0, 1, 3, 10, 22]))
 (.cond (.t 22) (.seq (.reg false [] (.w 0 ⟨(some 8), none, .mv (.c .nilp)⟩
  (.w 1 ⟨(some 9), none, .mv (.c (.int .i64 2))⟩
  .done)) (some [8, 9]))
 .ret)
 (.seq (.reg true [[], [0], [0, 1], [], [3], [3, 4], [3, 4, 5], [0, 1, 2, 3, 4, 5, 6], [0, 1, 2, 3, 4, 5, 6, 7]] (.w 0 ⟨(some 27), none, .mv (.t 3)⟩
  (.w 1 ⟨(some 28), none, .len false (.t 27)⟩
  (.w 3 ⟨(some 30), none, .mv (.t 10)⟩
  (.w 4 ⟨(some 31), none, .nilc (.t 30)⟩
  (.w 5 ⟨(some 32), none, .fa (.t 31) 2⟩
  (.rd 6 ⟨(some 33), none, .ld (.t 32) 1 false⟩
  (.l 2 ⟨(some 29), none, .call 28 [(.t 28)]⟩ [(6, ⟨(some 33), none, .ld (.t 32) 1 false⟩)]
  (.w 7 ⟨(some 34), none, .bin .gtr .i (.t 29) (.t 33)⟩
  (.w 8 ⟨(some 26), none, .mv (.t 34)⟩
  .done)) .stop))))))) (some [0, 1, 3, 10, 26]))
 (.cond (.t 26) (.seq (.reg false [] (.w 0 ⟨(some 8), none, .mv (.c .nilp)⟩
  (.w 1 ⟨(some 9), none, .mv (.c (.int .i64 60))⟩
  .done)) (some [8, 9]))
 .ret)
 .skip)))))))
 (.seq (.seq (.reg false [] (.w 0 ⟨(some 35), none, .mv (.t 0)⟩
  (.w 1 ⟨(some 36), none, .mv (.t 1)⟩
  (.l 2 ⟨(some 37), none, .call 30 [(.c (.str [0])), (.c (.int .i64 1024))]⟩ []
  (.l 3 ⟨(some 38), none, .call 29 [(.t 35), (.t 36), (.t 37)]⟩ []
  (.w 4 ⟨(some 11), none, .mv (.t 38)⟩
  .done) .stop) .stop))) (some [3, 10, 11]))
 (.seq (.reg false [] (.w 0 ⟨(some 39), none, .mv (.t 11)⟩
  (.w 1 ⟨(some 40), none, .bin .neq .i (.t 39) (.c (.int .i64 0))⟩
  .done)) (some [3, 10, 11, 40]))
 (.cond (.t 40) (.seq (.reg false [] (.w 0 ⟨(some 41), none, .mv (.t 11)⟩
  (.w 1 ⟨(some 8), none, .mv (.c .nilp)⟩
  (.w 2 ⟨(some 9), none, .mv (.t 41)⟩
  .done))) (some [8, 9]))
 .ret)
 .skip)))
 (.seq (.seq (.reg false [] (.w 0 ⟨(some 42), none, .mv (.t 10)⟩
  (.l 1 ⟨(some 43), none, .call 27 [(.t 42)]⟩ []
  (.w 2 ⟨(some 12), none, .mv (.t 43)⟩
  .done) .stop)) (some [3, 10, 12]))
 (.seq (.reg false [] (.w 0 ⟨(some 44), none, .mv (.t 12)⟩
  (.w 1 ⟨(some 45), none, .bin .neq .i (.t 44) (.c (.int .i64 0))⟩
  .done)) (some [3, 10, 12, 45]))
 (.cond (.t 45) (.seq (.reg false [] (.w 0 ⟨(some 46), none, .mv (.t 12)⟩
  (.w 1 ⟨(some 8), none, .mv (.c .nilp)⟩
  (.w 2 ⟨(some 9), none, .mv (.t 46)⟩
  .done))) (some [8, 9]))
 .ret)
 .skip)))
 (.seq (.seq (.reg false [] (.w 0 ⟨(some 47), none, .mv (.t 10)⟩
  (.w 1 ⟨(some 48), none, .mv (.t 3)⟩
  (.l 2 ⟨(some 49), none, .call 31 [(.t 47), (.c (.int .i64 0)), (.c (.int .i64 0)), (.t 48), (.c (.int .i64 1))]⟩ []
  (.w 3 ⟨(some 13), none, .mv (.t 49)⟩
  .done) .stop))) (some [3, 10, 13]))
 (.seq (.reg false [] (.w 0 ⟨(some 50), none, .mv (.t 13)⟩
  (.w 1 ⟨(some 51), none, .bin .neq .i (.t 50) (.c (.int .i64 0))⟩
  .done)) (some [3, 10, 13, 51]))
 (.cond (.t 51) (.seq (.reg false [] (.w 0 ⟨(some 52), none, .mv (.t 13)⟩
  (.w 1 ⟨(some 8), none, .mv (.c .nilp)⟩
  (.w 2 ⟨(some 9), none, .mv (.t 52)⟩
  .done))) (some [8, 9]))
 .ret)
 .skip)))
 (.seq (.seq (.reg false [] (.w 0 ⟨(some 53), none, .mv (.t 10)⟩
  (.l 1 ⟨(some 54), none, .call 27 [(.t 53)]⟩ []
  (.w 2 ⟨(some 14), none, .mv (.t 54)⟩
  .done) .stop)) (some [3, 10, 14]))
 (.seq (.reg false [] (.w 0 ⟨(some 55), none, .mv (.t 14)⟩
  (.w 1 ⟨(some 56), none, .bin .neq .i (.t 55) (.c (.int .i64 0))⟩
  .done)) (some [3, 10, 14, 56]))
 (.cond (.t 56) (.seq (.reg false [] (.w 0 ⟨(some 57), none, .mv (.t 14)⟩
  (.w 1 ⟨(some 8), none, .mv (.c .nilp)⟩
  (.w 2 ⟨(some 9), none, .mv (.t 57)⟩
  .done))) (some [8, 9]))
 .ret)
 .skip)))
 (.seq (.reg false [] (.w 0 ⟨(some 58), none, .mv (.t 10)⟩
  (.w 1 ⟨(some 59), none, .mv (.t 10)⟩
  (.w 2 ⟨(some 60), none, .mv (.t 3)⟩
  (.w 3 ⟨(some 61), none, .mv (.t 3)⟩
  (.w 4 ⟨(some 62), none, .len false (.t 61)⟩
  (.l 5 ⟨(some 63), none, .call 28 [(.t 62)]⟩ []
  (.w 6 ⟨(some 64), none, .nilc (.t 58)⟩
  (.w 7 ⟨(some 65), none, .fa (.t 64) 5⟩
  (.l 8 ⟨none, none, .st 1 (.t 65) (.t 60)⟩ []
  (.w 9 ⟨(some 66), none, .nilc (.t 59)⟩
  (.w 10 ⟨(some 67), none, .fa (.t 66) 7⟩
  (.l 11 ⟨none, none, .st 1 (.t 67) (.t 63)⟩ []
  .done .stop))) .stop))) .stop)))))) (some [10]))
 (.seq (.reg false [] (.w 0 ⟨(some 68), none, .mv (.t 10)⟩
  (.w 1 ⟨(some 8), none, .mv (.t 68)⟩
  (.w 2 ⟨(some 9), none, .mv (.c (.int .i64 0))⟩
  .done))) (some [8, 9]))
 .ret)))))))))
def r_journal_Format : List RS := [.t 8, .t 9]
theorem chk_journal_Format : (chkC prog (max Tryd.f10.ntmps 4) s_journal_Format (Tryd.f10.body.getD .skip) && chkRS prog r_journal_Format Tryd.f10.results.toList) = true := by kernel_rfl
theorem mk_journal_Format {G : Glob} {args : List SV} {H : List SO} {K Kp : SV → List SO → Prop} (hl : args.length = 4) (h : VFun prog G 69 s_journal_Format r_journal_Format args H K Kp) : Con prog G 10 args H K Kp := by
  subst_vars
  exact con_of_vc (fn := Tryd.f10) (sc := s_journal_Format) (rs := r_journal_Format) rfl Tryd.func10 rfl (by rw [hl]; exact chk_journal_Format) (by rw [hl]; exact h)

/- (*headgate/journal.Journal).Append; loops: []; slots [(j, 0), (text, 1), (j, 2), (text, 3), (n, 5), (err, 6)] -/
def s_journal_Journal_Append : SCode :=
 (.seq (.reg false [] (.w 0 ⟨(some 4), none, .mv (.c (.int .i64 0))⟩
  .done) (some [0, 1]))
 (.seq (.reg false [] (.w 0 ⟨(some 7), none, .mv (.t 1)⟩
  (.w 1 ⟨(some 8), none, .len false (.t 7)⟩
  (.l 2 ⟨(some 9), none, .call 28 [(.t 8)]⟩ []
  (.w 3 ⟨(some 5), none, .mv (.t 9)⟩
  .done) .stop))) (some [0, 1, 5]))
 (.seq (.block 0 (.seq (.reg false [] (.w 0 ⟨(some 11), none, .mv (.t 0)⟩
  (.w 1 ⟨(some 12), none, .bin .eql .p (.t 11) (.c .nilp)⟩
  (.w 2 ⟨(some 10), none, .mv (.t 12)⟩
  .done))) (some [0, 1, 5, 10]))
 (.cond (.t 10) (.seq (.reg false [] (.w 0 ⟨(some 4), none, .mv (.c (.int .i64 1))⟩
  .done) (some [4]))
 .ret)
 (.seq (.reg false [] (.w 0 ⟨(some 14), none, .mv (.t 0)⟩
  (.w 1 ⟨(some 15), none, .nilc (.t 14)⟩
  (.w 2 ⟨(some 16), none, .fa (.t 15) 9⟩
  (.rd 3 ⟨(some 17), none, .ld (.t 16) 1 false⟩
  (.w 4 ⟨(some 13), none, .mv (.t 17)⟩
  .done))))) (some [0, 1, 5, 13]))
 (.cond (.t 13) (.seq (.reg false [] (.w 0 ⟨(some 4), none, .mv (.c (.int .i64 41))⟩
  .done) (some [4]))
 .ret)
 (.seq (.reg false [] (.w 0 ⟨(some 19), none, .mv (.t 1)⟩
  (.w 1 ⟨(some 20), none, .len false (.t 19)⟩
  (.w 2 ⟨(some 21), none, .bin .gtr .i (.t 20) (.c (.int .i64 65536))⟩
  (.w 3 ⟨(some 18), none, .mv (.t 21)⟩
  .done)))) (some [0, 1, 5, 18]))
 (.cond (.t 18) (.seq (.reg false [] (.w 0 ⟨(some 4), none, .mv (.c (.int .i64 2))⟩
  .done) (some [4]))
 .ret)
 (.seq (.reg false [] (.w 0 ⟨(some 23), none, .mv (.t 5)⟩
  (.w 1 ⟨(some 24), none, .mv (.t 0)⟩
  (.l 2 ⟨(some 25), none, .call 16 [(.t 24)]⟩ []
  (.w 3 ⟨(some 26), none, .bin .gtr .i (.t 23) (.t 25)⟩
  (.w 4 ⟨(some 22), none, .mv (.t 26)⟩
  .done)) .stop))) (some [0, 1, 5, 22]))
 (.cond (.t 22) (.seq (.reg false [] (.w 0 ⟨(some 4), none, .mv (.c (.int .i64 60))⟩
  .done) (some [4]))
 .ret)
 .skip)))))))))
 (.seq (.seq (.reg true [[], [], [1], [1, 2], [1, 2, 3], [], [5], [5, 6], [5, 6, 7], [], [], [10], [10, 11], [10, 11, 12], [10, 11, 12, 13], [10, 11, 12, 13, 14], [0, 1, 2, 3, 4, 5, 6, 7, 8, 9, 10, 11, 12, 13, 14, 15], [0, 1, 2, 3, 4, 5, 6, 7, 8, 9, 10, 11, 12, 13, 14, 15, 16]] (.w 0 ⟨(some 27), none, .mv (.t 0)⟩
  (.w 1 ⟨(some 28), none, .mv (.t 0)⟩
  (.w 2 ⟨(some 29), none, .nilc (.t 28)⟩
  (.w 3 ⟨(some 30), none, .fa (.t 29) 3⟩
  (.rd 4 ⟨(some 31), none, .ld (.t 30) 1 false⟩
  (.w 5 ⟨(some 32), none, .mv (.t 0)⟩
  (.w 6 ⟨(some 33), none, .nilc (.t 32)⟩
  (.w 7 ⟨(some 34), none, .fa (.t 33) 7⟩
  (.rd 8 ⟨(some 35), none, .ld (.t 34) 1 false⟩
  (.w 9 ⟨(some 36), none, .mv (.t 1)⟩
  (.w 10 ⟨(some 37), none, .mv (.t 0)⟩
  (.w 11 ⟨(some 38), none, .nilc (.t 37)⟩
  (.w 12 ⟨(some 39), none, .fa (.t 38) 6⟩
  (.rd 13 ⟨(some 40), none, .ld (.t 39) 1 false⟩
  (.w 14 ⟨(some 41), none, .len true (.t 40)⟩
  (.w 15 ⟨(some 42), none, .bin .add .i (.t 41) (.c (.int .i64 2))⟩
  (.l 16 ⟨(some 43), none, .call 31 [(.t 27), (.t 31), (.t 35), (.t 36), (.t 42)]⟩ []
  (.w 17 ⟨(some 6), none, .mv (.t 43)⟩
  .done) .stop))))))))))))))))) (some [0, 1, 5, 6]))
 (.seq (.reg false [] (.w 0 ⟨(some 44), none, .mv (.t 6)⟩
  (.w 1 ⟨(some 45), none, .bin .neq .i (.t 44) (.c (.int .i64 0))⟩
  .done)) (some [0, 1, 5, 6, 45]))
 (.cond (.t 45) (.seq (.reg false [] (.w 0 ⟨(some 46), none, .mv (.t 6)⟩
  (.w 1 ⟨(some 4), none, .mv (.t 46)⟩
  .done)) (some [4]))
 .ret)
 .skip)))
 (.seq (.reg false [] (.w 0 ⟨(some 47), none, .mv (.t 0)⟩
  (.w 1 ⟨(some 48), none, .mv (.t 0)⟩
  (.w 2 ⟨(some 49), none, .nilc (.t 48)⟩
  (.w 3 ⟨(some 50), none, .fa (.t 49) 6⟩
  (.rd 4 ⟨(some 51), none, .ld (.t 50) 1 false⟩
  (.w 5 ⟨(some 52), none, .mv (.t 1)⟩
  (.l 6 ⟨(some 53), none, .bsl (strC ty_string) 1 [(0, 1, (.t 52))]⟩ []
  (.l 7 ⟨(some 54), none, .app 9 1 16 (.t 51) (.t 53)⟩ []
  (.w 8 ⟨(some 55), none, .nilc (.t 47)⟩
  (.w 9 ⟨(some 56), none, .fa (.t 55) 6⟩
  (.l 10 ⟨none, none, .st 1 (.t 56) (.t 54)⟩ []
  .done .stop))) .stop) .stop))))))) (some [0, 5]))
 (.seq (.reg false [] (.w 0 ⟨(some 57), none, .mv (.t 0)⟩
  (.w 1 ⟨(some 58), none, .nilc (.t 57)⟩
  (.w 2 ⟨(some 59), none, .fa (.t 58) 7⟩
  (.rd 3 ⟨(some 60), none, .ld (.t 59) 1 false⟩
  (.w 4 ⟨(some 61), none, .mv (.t 5)⟩
  (.w 5 ⟨(some 62), none, .bin .add .i (.t 60) (.t 61)⟩
  (.w 6 ⟨(some 63), none, .nilc (.t 57)⟩
  (.w 7 ⟨(some 64), none, .fa (.t 63) 7⟩
  (.l 8 ⟨none, none, .st 1 (.t 64) (.t 62)⟩ []
  .done .stop))))))))) (some []))
 (.seq (.reg false [] (.w 0 ⟨(some 4), none, .mv (.c (.int .i64 0))⟩
  .done) (some [4]))
 .ret)))))))
def r_journal_Journal_Append : List RS := [.t 4]
theorem chk_journal_Journal_Append : (chkC prog (max Tryd.f11.ntmps 2) s_journal_Journal_Append (Tryd.f11.body.getD .skip) && chkRS prog r_journal_Journal_Append Tryd.f11.results.toList) = true := by kernel_rfl
theorem mk_journal_Journal_Append {G : Glob} {args : List SV} {H : List SO} {K Kp : SV → List SO → Prop} (hl : args.length = 2) (h : VFun prog G 65 s_journal_Journal_Append r_journal_Journal_Append args H K Kp) : Con prog G 11 args H K Kp := by
  subst_vars
  exact con_of_vc (fn := Tryd.f11) (sc := s_journal_Journal_Append) (rs := r_journal_Journal_Append) rfl Tryd.func11 rfl (by rw [hl]; exact chk_journal_Journal_Append) (by rw [hl]; exact h)

/- (*headgate/journal.Journal).Checkpoint; loops: []; slots [(j, 0), (base, 1), (j, 2), (base, 3), (n, 5), (err, 6), (err, 7)] -/
def s_journal_Journal_Checkpoint : SCode :=
 (.seq (.reg false [] (.w 0 ⟨(some 4), none, .mv (.c (.int .i64 0))⟩
  .done) (some [0, 1]))
 (.seq (.reg false [] (.w 0 ⟨(some 8), none, .mv (.t 1)⟩
  (.w 1 ⟨(some 9), none, .len false (.t 8)⟩
  (.l 2 ⟨(some 10), none, .call 28 [(.t 9)]⟩ []
  (.w 3 ⟨(some 5), none, .mv (.t 10)⟩
  .done) .stop))) (some [0, 1, 5]))
 (.seq (.block 0 (.seq (.reg false [] (.w 0 ⟨(some 12), none, .mv (.t 0)⟩
  (.w 1 ⟨(some 13), none, .bin .eql .p (.t 12) (.c .nilp)⟩
  (.w 2 ⟨(some 11), none, .mv (.t 13)⟩
  .done))) (some [0, 1, 5, 11]))
 (.cond (.t 11) (.seq (.reg false [] (.w 0 ⟨(some 4), none, .mv (.c (.int .i64 1))⟩
  .done) (some [4]))
 .ret)
 (.seq (.reg false [] (.w 0 ⟨(some 15), none, .mv (.t 0)⟩
  (.w 1 ⟨(some 16), none, .nilc (.t 15)⟩
  (.w 2 ⟨(some 17), none, .fa (.t 16) 9⟩
  (.rd 3 ⟨(some 18), none, .ld (.t 17) 1 false⟩
  (.w 4 ⟨(some 14), none, .mv (.t 18)⟩
  .done))))) (some [0, 1, 5, 14]))
 (.cond (.t 14) (.seq (.reg false [] (.w 0 ⟨(some 4), none, .mv (.c (.int .i64 41))⟩
  .done) (some [4]))
 .ret)
 (.seq (.reg false [] (.w 0 ⟨(some 20), none, .mv (.t 1)⟩
  (.w 1 ⟨(some 21), none, .len false (.t 20)⟩
  (.w 2 ⟨(some 22), none, .bin .gtr .i (.t 21) (.c (.int .i64 65536))⟩
  (.w 3 ⟨(some 19), none, .mv (.t 22)⟩
  .done)))) (some [0, 1, 5, 19]))
 (.cond (.t 19) (.seq (.reg false [] (.w 0 ⟨(some 4), none, .mv (.c (.int .i64 2))⟩
  .done) (some [4]))
 .ret)
 (.seq (.reg false [] (.w 0 ⟨(some 24), none, .mv (.t 5)⟩
  (.w 1 ⟨(some 25), none, .mv (.t 0)⟩
  (.w 2 ⟨(some 26), none, .nilc (.t 25)⟩
  (.w 3 ⟨(some 27), none, .fa (.t 26) 2⟩
  (.rd 4 ⟨(some 28), none, .ld (.t 27) 1 false⟩
  (.w 5 ⟨(some 29), none, .bin .gtr .i (.t 24) (.t 28)⟩
  (.w 6 ⟨(some 23), none, .mv (.t 29)⟩
  .done))))))) (some [0, 1, 5, 23]))
 (.cond (.t 23) (.seq (.reg false [] (.w 0 ⟨(some 4), none, .mv (.c (.int .i64 60))⟩
  .done) (some [4]))
 .ret)
 .skip)))))))))
 (.seq (.seq (.reg false [] (.w 0 ⟨(some 30), none, .mv (.t 0)⟩
  (.w 1 ⟨(some 31), none, .nilc (.t 30)⟩
  (.w 2 ⟨(some 32), none, .fa (.t 31) 8⟩
  (.rd 3 ⟨(some 33), none, .ld (.t 32) 1 false⟩
  .done)))) (some [0, 1, 5, 33]))
 (.cond (.t 33) (.seq (.reg false [] (.w 0 ⟨(some 34), none, .mv (.t 0)⟩
  (.l 1 ⟨(some 35), none, .call 27 [(.t 34)]⟩ []
  (.w 2 ⟨(some 6), none, .mv (.t 35)⟩
  .done) .stop)) (some [0, 1, 5, 6]))
 (.seq (.reg false [] (.w 0 ⟨(some 36), none, .mv (.t 6)⟩
  (.w 1 ⟨(some 37), none, .bin .neq .i (.t 36) (.c (.int .i64 0))⟩
  .done)) (some [0, 1, 5, 6, 37]))
 (.cond (.t 37) (.seq (.reg false [] (.w 0 ⟨(some 38), none, .mv (.t 6)⟩
  (.w 1 ⟨(some 4), none, .mv (.t 38)⟩
  .done)) (some [4]))
 .ret)
 .skip)))
 .skip))
 (.seq (.seq (.reg false [] (.w 0 ⟨(some 39), none, .mv (.t 0)⟩
  (.w 1 ⟨(some 40), none, .mv (.t 0)⟩
  (.w 2 ⟨(some 41), none, .nilc (.t 40)⟩
  (.w 3 ⟨(some 42), none, .fa (.t 41) 3⟩
  (.rd 4 ⟨(some 43), none, .ld (.t 42) 1 false⟩
  (.w 5 ⟨(some 44), none, .bin .sub .i (.c (.int .i64 1)) (.t 43)⟩
  (.w 6 ⟨(some 45), none, .mv (.t 1)⟩
  (.l 7 ⟨(some 46), none, .call 31 [(.t 39), (.t 44), (.c (.int .i64 0)), (.t 45), (.c (.int .i64 1))]⟩ []
  (.w 8 ⟨(some 7), none, .mv (.t 46)⟩
  .done) .stop)))))))) (some [0, 1, 5, 7]))
 (.seq (.reg false [] (.w 0 ⟨(some 47), none, .mv (.t 7)⟩
  (.w 1 ⟨(some 48), none, .bin .neq .i (.t 47) (.c (.int .i64 0))⟩
  .done)) (some [0, 1, 5, 7, 48]))
 (.cond (.t 48) (.seq (.reg false [] (.w 0 ⟨(some 49), none, .mv (.t 7)⟩
  (.w 1 ⟨(some 4), none, .mv (.t 49)⟩
  .done)) (some [4]))
 .ret)
 .skip)))
 (.seq (.reg false [] (.w 0 ⟨(some 50), none, .mv (.t 0)⟩
  (.w 1 ⟨(some 51), none, .mv (.t 0)⟩
  (.w 2 ⟨(some 52), none, .mv (.t 0)⟩
  (.w 3 ⟨(some 53), none, .mv (.t 0)⟩
  (.w 4 ⟨(some 54), none, .mv (.t 0)⟩
  (.w 5 ⟨(some 55), none, .nilc (.t 54)⟩
  (.w 6 ⟨(some 56), none, .fa (.t 55) 3⟩
  (.rd 7 ⟨(some 57), none, .ld (.t 56) 1 false⟩
  (.w 8 ⟨(some 58), none, .bin .sub .i (.c (.int .i64 1)) (.t 57)⟩
  (.w 9 ⟨(some 59), none, .mv (.t 1)⟩
  (.w 10 ⟨(some 60), none, .mv (.t 5)⟩
  (.w 11 ⟨(some 61), none, .nilc (.t 50)⟩
  (.w 12 ⟨(some 62), none, .fa (.t 61) 3⟩
  (.l 13 ⟨none, none, .st 1 (.t 62) (.t 58)⟩ []
  (.w 14 ⟨(some 63), none, .nilc (.t 51)⟩
  (.w 15 ⟨(some 64), none, .fa (.t 63) 5⟩
  (.l 16 ⟨none, none, .st 1 (.t 64) (.t 59)⟩ []
  (.w 17 ⟨(some 65), none, .nilc (.t 52)⟩
  (.w 18 ⟨(some 66), none, .fa (.t 65) 6⟩
  (.l 19 ⟨none, none, .st 1 (.t 66) (.c .nils)⟩ []
  (.w 20 ⟨(some 67), none, .nilc (.t 53)⟩
  (.w 21 ⟨(some 68), none, .fa (.t 67) 7⟩
  (.l 22 ⟨none, none, .st 1 (.t 68) (.t 60)⟩ []
  .done .stop))) .stop))) .stop))) .stop)))))))))))))) (some []))
 (.seq (.reg false [] (.w 0 ⟨(some 4), none, .mv (.c (.int .i64 0))⟩
  .done) (some [4]))
 .ret)))))))
def r_journal_Journal_Checkpoint : List RS := [.t 4]
theorem chk_journal_Journal_Checkpoint : (chkC prog (max Tryd.f12.ntmps 2) s_journal_Journal_Checkpoint (Tryd.f12.body.getD .skip) && chkRS prog r_journal_Journal_Checkpoint Tryd.f12.results.toList) = true := by kernel_rfl
theorem mk_journal_Journal_Checkpoint {G : Glob} {args : List SV} {H : List SO} {K Kp : SV → List SO → Prop} (hl : args.length = 2) (h : VFun prog G 69 s_journal_Journal_Checkpoint r_journal_Journal_Checkpoint args H K Kp) : Con prog G 12 args H K Kp := by
  subst_vars
  exact con_of_vc (fn := Tryd.f12) (sc := s_journal_Journal_Checkpoint) (rs := r_journal_Journal_Checkpoint) rfl Tryd.func12 rfl (by rw [hl]; exact chk_journal_Journal_Checkpoint) (by rw [hl]; exact h)

/- (*headgate/journal.Journal).Sync; loops: []; slots [(j, 0), (j, 1)] -/
def s_journal_Journal_Sync : SCode :=
 (.seq (.reg false [] (.w 0 ⟨(some 2), none, .mv (.c (.int .i64 0))⟩
  .done) (some [0]))
 (.seq (.seq (.reg false [] (.w 0 ⟨(some 3), none, .mv (.t 0)⟩
  (.w 1 ⟨(some 4), none, .bin .eql .p (.t 3) (.c .nilp)⟩
  .done)) (some [0, 4]))
 (.cond (.t 4) (.seq (.reg false [] (.w 0 ⟨(some 2), none, .mv (.c (.int .i64 1))⟩
  .done) (some [2]))
 .ret)
 .skip))
 (.seq (.seq (.reg false [] (.w 0 ⟨(some 5), none, .mv (.t 0)⟩
  (.w 1 ⟨(some 6), none, .nilc (.t 5)⟩
  (.w 2 ⟨(some 7), none, .fa (.t 6) 9⟩
  (.rd 3 ⟨(some 8), none, .ld (.t 7) 1 false⟩
  .done)))) (some [0, 8]))
 (.cond (.t 8) (.seq (.reg false [] (.w 0 ⟨(some 2), none, .mv (.c (.int .i64 41))⟩
  .done) (some [2]))
 .ret)
 .skip))
 (.seq (.reg false [] (.w 0 ⟨(some 9), none, .mv (.t 0)⟩
  (.l 1 ⟨(some 10), none, .call 27 [(.t 9)]⟩ []
  (.w 2 ⟨(some 2), none, .mv (.t 10)⟩
  .done) .stop)) (some [2]))
 .ret))))
def r_journal_Journal_Sync : List RS := [.t 2]
theorem chk_journal_Journal_Sync : (chkC prog (max Tryd.f13.ntmps 1) s_journal_Journal_Sync (Tryd.f13.body.getD .skip) && chkRS prog r_journal_Journal_Sync Tryd.f13.results.toList) = true := by kernel_rfl
theorem mk_journal_Journal_Sync {G : Glob} {args : List SV} {H : List SO} {K Kp : SV → List SO → Prop} (hl : args.length = 1) (h : VFun prog G 11 s_journal_Journal_Sync r_journal_Journal_Sync args H K Kp) : Con prog G 13 args H K Kp := by
  subst_vars
  exact con_of_vc (fn := Tryd.f13) (sc := s_journal_Journal_Sync) (rs := r_journal_Journal_Sync) rfl Tryd.func13 rfl (by rw [hl]; exact chk_journal_Journal_Sync) (by rw [hl]; exact h)

/- (*headgate/journal.Journal).Base; loops: []; slots [(j, 0), (j, 1)] -/
def s_journal_Journal_Base : SCode :=
 (.seq (.reg false [] (.w 0 ⟨(some 2), none, .mv (.c (.str []))⟩
  .done) (some [0]))
 (.seq (.seq (.reg false [] (.w 0 ⟨(some 3), none, .mv (.t 0)⟩
  (.w 1 ⟨(some 4), none, .bin .eql .p (.t 3) (.c .nilp)⟩
  .done)) (some [0, 4]))
 (.cond (.t 4) (.seq (.reg false [] (.w 0 ⟨(some 2), none, .mv (.c (.str []))⟩
  .done) (some [2]))
 .ret)
 .skip))
 (.seq (.reg false [] (.w 0 ⟨(some 5), none, .mv (.t 0)⟩
  (.w 1 ⟨(some 6), none, .nilc (.t 5)⟩
  (.w 2 ⟨(some 7), none, .fa (.t 6) 5⟩
  (.rd 3 ⟨(some 8), none, .ld (.t 7) 1 false⟩
  (.w 4 ⟨(some 2), none, .mv (.t 8)⟩
  .done))))) (some [2]))
 .ret)))
def r_journal_Journal_Base : List RS := [.t 2]
theorem chk_journal_Journal_Base : (chkC prog (max Tryd.f14.ntmps 1) s_journal_Journal_Base (Tryd.f14.body.getD .skip) && chkRS prog r_journal_Journal_Base Tryd.f14.results.toList) = true := by kernel_rfl
theorem mk_journal_Journal_Base {G : Glob} {args : List SV} {H : List SO} {K Kp : SV → List SO → Prop} (hl : args.length = 1) (h : VFun prog G 9 s_journal_Journal_Base r_journal_Journal_Base args H K Kp) : Con prog G 14 args H K Kp := by
  subst_vars
  exact con_of_vc (fn := Tryd.f14) (sc := s_journal_Journal_Base) (rs := r_journal_Journal_Base) rfl Tryd.func14 rfl (by rw [hl]; exact chk_journal_Journal_Base) (by rw [hl]; exact h)

/- (*headgate/journal.Journal).Records; loops: []; slots [(j, 0), (j, 1)] -/
def s_journal_Journal_Records : SCode :=
 (.seq (.reg false [] (.w 0 ⟨(some 2), none, .mv (.c .nils)⟩
  .done) (some [0]))
 (.seq (.seq (.reg false [] (.w 0 ⟨(some 3), none, .mv (.t 0)⟩
  (.w 1 ⟨(some 4), none, .bin .eql .p (.t 3) (.c .nilp)⟩
  .done)) (some [0, 4]))
 (.cond (.t 4) (.seq (.reg false [] (.w 0 ⟨(some 2), none, .mv (.c .nils)⟩
  .done) (some [2]))
 .ret)
 .skip))
 (.seq (.reg false [] (.w 0 ⟨(some 5), none, .mv (.t 0)⟩
  (.w 1 ⟨(some 6), none, .nilc (.t 5)⟩
  (.w 2 ⟨(some 7), none, .fa (.t 6) 6⟩
  (.rd 3 ⟨(some 8), none, .ld (.t 7) 1 false⟩
  (.l 4 ⟨(some 9), none, .app 9 1 16 (.c .nils) (.t 8)⟩ []
  (.w 5 ⟨(some 2), none, .mv (.t 9)⟩
  .done) .stop))))) (some [2]))
 .ret)))
def r_journal_Journal_Records : List RS := [.t 2]
theorem chk_journal_Journal_Records : (chkC prog (max Tryd.f15.ntmps 1) s_journal_Journal_Records (Tryd.f15.body.getD .skip) && chkRS prog r_journal_Journal_Records Tryd.f15.results.toList) = true := by kernel_rfl
theorem mk_journal_Journal_Records {G : Glob} {args : List SV} {H : List SO} {K Kp : SV → List SO → Prop} (hl : args.length = 1) (h : VFun prog G 10 s_journal_Journal_Records r_journal_Journal_Records args H K Kp) : Con prog G 15 args H K Kp := by
  subst_vars
  exact con_of_vc (fn := Tryd.f15) (sc := s_journal_Journal_Records) (rs := r_journal_Journal_Records) rfl Tryd.func15 rfl (by rw [hl]; exact chk_journal_Journal_Records) (by rw [hl]; exact h)

/- (*headgate/journal.Journal).Room; loops: []; slots [(j, 0), (j, 1)] -/
def s_journal_Journal_Room : SCode :=
 (.seq (.reg false [] (.w 0 ⟨(some 2), none, .mv (.c (.int .i64 0))⟩
  .done) (some [0]))
 (.seq (.seq (.reg false [] (.w 0 ⟨(some 3), none, .mv (.t 0)⟩
  (.w 1 ⟨(some 4), none, .bin .eql .p (.t 3) (.c .nilp)⟩
  .done)) (some [0, 4]))
 (.cond (.t 4) (.seq (.reg false [] (.w 0 ⟨(some 2), none, .mv (.c (.int .i64 0))⟩
  .done) (some [2]))
 .ret)
 .skip))
 (.seq (.reg true [[], [0], [0, 1], [0, 1, 2], [], [4], [4, 5], [4, 5, 6], [0, 1, 2, 3, 4, 5, 6, 7], [0, 1, 2, 3, 4, 5, 6, 7, 8]] (.w 0 ⟨(some 5), none, .mv (.t 0)⟩
  (.w 1 ⟨(some 6), none, .nilc (.t 5)⟩
  (.w 2 ⟨(some 7), none, .fa (.t 6) 2⟩
  (.rd 3 ⟨(some 8), none, .ld (.t 7) 1 false⟩
  (.w 4 ⟨(some 9), none, .mv (.t 0)⟩
  (.w 5 ⟨(some 10), none, .nilc (.t 9)⟩
  (.w 6 ⟨(some 11), none, .fa (.t 10) 7⟩
  (.rd 7 ⟨(some 12), none, .ld (.t 11) 1 false⟩
  (.w 8 ⟨(some 13), none, .bin .sub .i (.t 8) (.t 12)⟩
  (.w 9 ⟨(some 2), none, .mv (.t 13)⟩
  .done)))))))))) (some [2]))
 .ret)))
def r_journal_Journal_Room : List RS := [.t 2]
theorem chk_journal_Journal_Room : (chkC prog (max Tryd.f16.ntmps 1) s_journal_Journal_Room (Tryd.f16.body.getD .skip) && chkRS prog r_journal_Journal_Room Tryd.f16.results.toList) = true := by kernel_rfl
theorem mk_journal_Journal_Room {G : Glob} {args : List SV} {H : List SO} {K Kp : SV → List SO → Prop} (hl : args.length = 1) (h : VFun prog G 14 s_journal_Journal_Room r_journal_Journal_Room args H K Kp) : Con prog G 16 args H K Kp := by
  subst_vars
  exact con_of_vc (fn := Tryd.f16) (sc := s_journal_Journal_Room) (rs := r_journal_Journal_Room) rfl Tryd.func16 rfl (by rw [hl]; exact chk_journal_Journal_Room) (by rw [hl]; exact h)

/- headgate/journal.placed; loops: []; slots [(d, 0), (from, 1), (sectors, 2), (d, 3), (from, 4), (sectors, 5)] -/
def s_journal_placed : SCode :=
 (.seq (.reg false [] (.w 0 ⟨(some 6), none, .mv (.c .nilp)⟩
  .done) (some [0, 1, 2]))
 (.seq (.seq (.reg false [] (.w 0 ⟨(some 7), none, .mv (.t 0)⟩
  (.w 1 ⟨(some 8), none, .bin .eql .p (.t 7) (.c .nilp)⟩
  (.w 2 ⟨(some 9), none, .mv (.t 8)⟩
  (.w 3 ⟨(some 10), (some (9, false)), .mv (.t 1)⟩
  (.w 4 ⟨(some 11), (some (9, false)), .bin .lss .i (.t 10) (.c (.int .i64 0))⟩
  (.w 5 ⟨(some 12), none, .pick (.t 9) (.c (.bool true)) (.t 11)⟩
  (.w 6 ⟨(some 13), none, .mv (.t 12)⟩
  (.w 7 ⟨(some 14), (some (13, false)), .mv (.t 2)⟩
  (.w 8 ⟨(some 15), (some (13, false)), .bin .lss .i (.t 14) (.c (.int .i64 8))⟩
  (.w 9 ⟨(some 16), none, .pick (.t 13) (.c (.bool true)) (.t 15)⟩
  (.w 10 ⟨(some 17), none, .mv (.t 16)⟩
  (.w 11 ⟨(some 18), (some (17, false)), .mv (.t 2)⟩
  (.w 12 ⟨(some 19), (some (17, false)), .mv (.t 0)⟩
  (.l 13 ⟨(some 20), (some (17, false)), .call 34 [(.t 19)]⟩ []
  (.w 14 ⟨(some 21), (some (17, false)), .bin .gtr .i (.t 18) (.t 20)⟩
  (.w 15 ⟨(some 22), none, .pick (.t 17) (.c (.bool true)) (.t 21)⟩
  (.w 16 ⟨(some 23), none, .mv (.t 22)⟩
  (.w 17 ⟨(some 24), (some (23, false)), .mv (.t 1)⟩
  (.w 18 ⟨(some 25), (some (23, false)), .mv (.t 0)⟩
  (.l 19 ⟨(some 26), (some (23, false)), .call 34 [(.t 25)]⟩ []
  (.w 20 ⟨(some 27), (some (23, false)), .mv (.t 2)⟩
  (.w 21 ⟨(some 28), (some (23, false)), .bin .sub .i (.t 26) (.t 27)⟩
  (.w 22 ⟨(some 29), (some (23, false)), .bin .gtr .i (.t 24) (.t 28)⟩
  (.w 23 ⟨(some 30), none, .pick (.t 23) (.c (.bool true)) (.t 29)⟩
  .done)))) .stop)))))) .stop)))))))))))))) (some [0, 1, 2, 30]))
 (.cond (.t 30) (.seq (.reg false [] (.w 0 ⟨(some 6), none, .mv (.c .nilp)⟩
  .done) (some [6]))
 .ret)
 .skip))
 (.seq (.reg false [] (.w 0 ⟨(some 31), none, .mv (.t 0)⟩
  (.w 1 ⟨(some 32), none, .mv (.t 1)⟩
  (.w 2 ⟨(some 33), none, .mv (.t 2)⟩
  (.w 3 ⟨(some 34), none, .bin .sub .i (.t 33) (.c (.int .i64 4))⟩
  (.w 4 ⟨(some 35), none, .bin .quo .i (.t 34) (.c (.int .i64 2))⟩
  (.w 5 ⟨(some 36), none, .bld [.nilp, (.int .i64 0), (.int .i64 0), (.int .i64 0), (.int .i64 0), (.str []), .nils, (.int .i64 0), (.bool false), (.bool false)] [(0, 1, (.t 31)), (1, 1, (.t 32)), (2, 1, (.t 35))]⟩
  (.l 6 ⟨(some 37), none, .box (.t 36)⟩ []
  (.w 7 ⟨(some 6), none, .mv (.t 37)⟩
  .done) .stop))))))) (some [6]))
 .ret)))
def r_journal_placed : List RS := [.t 6]
theorem chk_journal_placed : (chkC prog (max Tryd.f21.ntmps 3) s_journal_placed (Tryd.f21.body.getD .skip) && chkRS prog r_journal_placed Tryd.f21.results.toList) = true := by kernel_rfl
theorem mk_journal_placed {G : Glob} {args : List SV} {H : List SO} {K Kp : SV → List SO → Prop} (hl : args.length = 3) (h : VFun prog G 38 s_journal_placed r_journal_placed args H K Kp) : Con prog G 21 args H K Kp := by
  subst_vars
  exact con_of_vc (fn := Tryd.f21) (sc := s_journal_placed) (rs := r_journal_placed) rfl Tryd.func21 rfl (by rw [hl]; exact chk_journal_placed) (by rw [hl]; exact h)

/- (*headgate/journal.Journal).slot; loops: []; slots [(j, 0), (n, 1), (j, 2), (n, 3), (seq, 4), (half, 5), (frames, 6), (err, 7), (s, 8), (a, 9), (_, 10), (b, 11), (_, 12), (h, 13), (_, 14), (k, 15), (_, 16)] -/
def s_journal_Journal_slot : SCode :=
 (.seq (.reg false [] (.w 0 ⟨(some 4), none, .mv (.c (.int .i64 0))⟩
  (.w 1 ⟨(some 5), none, .mv (.c (.int .i64 0))⟩
  (.w 2 ⟨(some 6), none, .mv (.c (.int .i64 0))⟩
  (.w 3 ⟨(some 7), none, .mv (.c (.int .i64 0))⟩
  .done)))) (some [0, 1]))
 (.seq (.reg true [[], [0], [0, 1], [0, 1, 2], [], [4], [4, 5], [4, 5, 6], [], [4, 5, 6, 7, 8], [0, 1, 2, 3, 4, 5, 6, 7, 8, 9], [0, 1, 2, 3, 4, 5, 6, 7, 8, 9, 10], [0, 1, 2, 3, 4, 5, 6, 7, 8, 9, 10, 11], [0, 1, 2, 3, 4, 5, 6, 7, 8, 9, 10, 11], [0, 1, 2, 3, 4, 5, 6, 7, 8, 9, 10, 11, 12], [0, 1, 2, 3, 4, 5, 6, 7, 8, 9, 10, 11, 12, 13, 14]] (.w 0 ⟨(some 18), none, .mv (.t 0)⟩
  (.w 1 ⟨(some 19), none, .nilc (.t 18)⟩
  (.w 2 ⟨(some 20), none, .fa (.t 19) 0⟩
  (.rd 3 ⟨(some 21), none, .ld (.t 20) 1 false⟩
  (.w 4 ⟨(some 22), none, .mv (.t 0)⟩
  (.w 5 ⟨(some 23), none, .nilc (.t 22)⟩
  (.w 6 ⟨(some 24), none, .fa (.t 23) 1⟩
  (.rd 7 ⟨(some 25), none, .ld (.t 24) 1 false⟩
  (.w 8 ⟨(some 26), none, .mv (.t 1)⟩
  (.w 9 ⟨(some 27), none, .bin .add .i (.t 25) (.t 26)⟩
  (.l 10 ⟨(some 28), none, .call 24 [(.t 21), (.t 27), (.c (.int .i64 1))]⟩ []
  (.w 11 ⟨(some 17), none, .mv (.t 28)⟩
  (.w 12 ⟨(some 29), none, .ext (.t 17) 0⟩
  (.w 13 ⟨(some 30), none, .ext (.t 17) 1⟩
  (.w 14 ⟨(some 8), none, .mv (.t 29)⟩
  (.w 15 ⟨(some 7), none, .mv (.t 30)⟩
  .done))))) .stop))))))))))) (some [0, 7, 8]))
 (.seq (.seq (.reg false [] (.w 0 ⟨(some 31), none, .mv (.t 7)⟩
  (.w 1 ⟨(some 32), none, .bin .neq .i (.t 31) (.c (.int .i64 0))⟩
  .done)) (some [0, 7, 8, 32]))
 (.cond (.t 32) (.seq (.reg false [] (.w 0 ⟨(some 33), none, .mv (.t 7)⟩
  (.w 1 ⟨(some 4), none, .mv (.c (.int .i64 0))⟩
  (.w 2 ⟨(some 5), none, .mv (.c (.int .i64 0))⟩
  (.w 3 ⟨(some 6), none, .mv (.c (.int .i64 0))⟩
  (.w 4 ⟨(some 7), none, .mv (.t 33)⟩
  .done))))) (some [4, 5, 6, 7]))
 .ret)
 .skip))
 (.seq (.reg false [] (.w 0 ⟨(some 35), none, .mv (.t 8)⟩
  (.l 1 ⟨(some 36), none, .call 35 [(.t 35), (.c (.int .i64 4)), (.c (.int .i64 8))]⟩ []
  (.w 2 ⟨(some 34), none, .mv (.t 36)⟩
  (.w 3 ⟨(some 37), none, .ext (.t 34) 0⟩
  (.w 4 ⟨(some 38), none, .ext (.t 34) 1⟩
  (.w 5 ⟨(some 9), none, .mv (.t 37)⟩
  (.w 6 ⟨(some 10), none, .mv (.t 38)⟩
  .done))))) .stop)) (some [0, 8, 9]))
 (.seq (.reg false [] (.w 0 ⟨(some 40), none, .mv (.t 8)⟩
  (.l 1 ⟨(some 41), none, .call 35 [(.t 40), (.c (.int .i64 504)), (.c (.int .i64 8))]⟩ []
  (.w 2 ⟨(some 39), none, .mv (.t 41)⟩
  (.w 3 ⟨(some 42), none, .ext (.t 39) 0⟩
  (.w 4 ⟨(some 43), none, .ext (.t 39) 1⟩
  (.w 5 ⟨(some 11), none, .mv (.t 42)⟩
  (.w 6 ⟨(some 12), none, .mv (.t 43)⟩
  .done))))) .stop)) (some [0, 8, 9, 11]))
 (.seq (.reg false [] (.w 0 ⟨(some 45), none, .mv (.t 8)⟩
  (.l 1 ⟨(some 46), none, .call 35 [(.t 45), (.c (.int .i64 12)), (.c (.int .i64 4))]⟩ []
  (.w 2 ⟨(some 44), none, .mv (.t 46)⟩
  (.w 3 ⟨(some 47), none, .ext (.t 44) 0⟩
  (.w 4 ⟨(some 48), none, .ext (.t 44) 1⟩
  (.w 5 ⟨(some 13), none, .mv (.t 47)⟩
  (.w 6 ⟨(some 14), none, .mv (.t 48)⟩
  .done))))) .stop)) (some [0, 8, 9, 11, 13]))
 (.seq (.reg false [] (.w 0 ⟨(some 50), none, .mv (.t 8)⟩
  (.l 1 ⟨(some 51), none, .call 35 [(.t 50), (.c (.int .i64 16)), (.c (.int .i64 4))]⟩ []
  (.w 2 ⟨(some 49), none, .mv (.t 51)⟩
  (.w 3 ⟨(some 52), none, .ext (.t 49) 0⟩
  (.w 4 ⟨(some 53), none, .ext (.t 49) 1⟩
  (.w 5 ⟨(some 15), none, .mv (.t 52)⟩
  (.w 6 ⟨(some 16), none, .mv (.t 53)⟩
  .done))))) .stop)) (some [0, 8, 9, 11, 13, 15]))
 (.seq (.seq (.reg false [] (.w 0 ⟨(some 54), none, .mv (.t 8)⟩
  (.l 1 ⟨(some 55), none, .call 36 [(.t 54), (.c (.str [72, 71, 74, 67]))]⟩ []
  (.w 2 ⟨(some 56), none, .un .not (.t 55)⟩
  (.w 3 ⟨(some 57), none, .mv (.t 56)⟩
  (.w 4 ⟨(some 58), (some (57, false)), .mv (.t 9)⟩
  (.w 5 ⟨(some 59), (some (57, false)), .mv (.t 11)⟩
  (.w 6 ⟨(some 60), (some (57, false)), .bin .neq .i (.t 58) (.t 59)⟩
  (.w 7 ⟨(some 61), none, .pick (.t 57) (.c (.bool true)) (.t 60)⟩
  (.w 8 ⟨(some 62), none, .mv (.t 61)⟩
  (.w 9 ⟨(some 63), (some (62, false)), .mv (.t 9)⟩
  (.w 10 ⟨(some 64), (some (62, false)), .bin .geq .i (.t 63) (.c (.int .u64 4611686018427387904))⟩
  (.w 11 ⟨(some 65), none, .pick (.t 62) (.c (.bool true)) (.t 64)⟩
  (.w 12 ⟨(some 66), none, .mv (.t 65)⟩
  (.w 13 ⟨(some 67), (some (66, false)), .mv (.t 13)⟩
  (.w 14 ⟨(some 68), (some (66, false)), .bin .gtr .i (.t 67) (.c (.int .u64 1))⟩
  (.w 15 ⟨(some 69), none, .pick (.t 66) (.c (.bool true)) (.t 68)⟩
  (.w 16 ⟨(some 70), none, .mv (.t 69)⟩
  (.w 17 ⟨(some 71), (some (70, false)), .mv (.t 15)⟩
  (.w 18 ⟨(some 72), (some (70, false)), .bin .lss .i (.t 71) (.c (.int .u64 1))⟩
  (.w 19 ⟨(some 73), none, .pick (.t 70) (.c (.bool true)) (.t 72)⟩
  (.w 20 ⟨(some 74), none, .mv (.t 73)⟩
  (.w 21 ⟨(some 75), (some (74, false)), .mv (.t 15)⟩
  (.w 22 ⟨(some 76), (some (74, false)), .mv (.t 0)⟩
  (.w 23 ⟨(some 77), (some (74, false)), .nilc (.t 76)⟩
  (.w 24 ⟨(some 78), (some (74, false)), .fa (.t 77) 2⟩
  (.rd 25 ⟨(some 79), (some (74, false)), .ld (.t 78) 1 false⟩
  (.w 26 ⟨(some 80), (some (74, false)), .conv .u64 (.t 79)⟩
  (.w 27 ⟨(some 81), (some (74, false)), .bin .gtr .i (.t 75) (.t 80)⟩
  (.w 28 ⟨(some 82), none, .pick (.t 74) (.c (.bool true)) (.t 81)⟩
  .done))))))))))))))))))))))))))) .stop)) (some [9, 13, 15, 82]))
 (.cond (.t 82) (.seq (.reg false [] (.w 0 ⟨(some 4), none, .mv (.c (.int .i64 0))⟩
  (.w 1 ⟨(some 5), none, .mv (.c (.int .i64 0))⟩
  (.w 2 ⟨(some 6), none, .mv (.c (.int .i64 0))⟩
  (.w 3 ⟨(some 7), none, .mv (.c (.int .i64 0))⟩
  .done)))) (some [4, 5, 6, 7]))
 .ret)
 .skip))
 (.seq (.reg false [] (.w 0 ⟨(some 83), none, .mv (.t 9)⟩
  (.w 1 ⟨(some 84), none, .conv .i64 (.t 83)⟩
  (.w 2 ⟨(some 85), none, .mv (.t 13)⟩
  (.w 3 ⟨(some 86), none, .conv .i64 (.t 85)⟩
  (.w 4 ⟨(some 87), none, .mv (.t 15)⟩
  (.w 5 ⟨(some 88), none, .conv .i64 (.t 87)⟩
  (.w 6 ⟨(some 4), none, .mv (.t 84)⟩
  (.w 7 ⟨(some 5), none, .mv (.t 86)⟩
  (.w 8 ⟨(some 6), none, .mv (.t 88)⟩
  (.w 9 ⟨(some 7), none, .mv (.c (.int .i64 0))⟩
  .done)))))))))) (some [4, 5, 6, 7]))
 .ret)))))))))
def r_journal_Journal_slot : List RS := [.t 4, .t 5, .t 6, .t 7]
theorem chk_journal_Journal_slot : (chkC prog (max Tryd.f22.ntmps 2) s_journal_Journal_slot (Tryd.f22.body.getD .skip) && chkRS prog r_journal_Journal_slot Tryd.f22.results.toList) = true := by kernel_rfl
theorem mk_journal_Journal_slot {G : Glob} {args : List SV} {H : List SO} {K Kp : SV → List SO → Prop} (hl : args.length = 2) (h : VFun prog G 89 s_journal_Journal_slot r_journal_Journal_slot args H K Kp) : Con prog G 22 args H K Kp := by
  subst_vars
  exact con_of_vc (fn := Tryd.f22) (sc := s_journal_Journal_slot) (rs := r_journal_Journal_slot) rfl Tryd.func22 rfl (by rw [hl]; exact chk_journal_Journal_slot) (by rw [hl]; exact h)

/- (*headgate/journal.Journal).place; loops: []; slots [(j, 0), (half, 1), (n, 2), (j, 3), (half, 4), (n, 5)] -/
def s_journal_Journal_place : SCode :=
 (.seq (.reg false [] (.w 0 ⟨(some 6), none, .mv (.c (.int .i64 0))⟩
  .done) (some [0, 1, 2]))
 (.seq (.reg true [[], [0], [0, 1], [0, 1, 2], [0, 1, 2, 3], [], [], [6], [6, 7], [6, 7, 8], [5, 6, 7, 8, 9], [0, 1, 2, 3, 4, 5, 6, 7, 8, 9, 10], [], [0, 1, 2, 3, 4, 5, 6, 7, 8, 9, 10, 11, 12], [0, 1, 2, 3, 4, 5, 6, 7, 8, 9, 10, 11, 12, 13]] (.w 0 ⟨(some 7), none, .mv (.t 0)⟩
  (.w 1 ⟨(some 8), none, .nilc (.t 7)⟩
  (.w 2 ⟨(some 9), none, .fa (.t 8) 1⟩
  (.rd 3 ⟨(some 10), none, .ld (.t 9) 1 false⟩
  (.w 4 ⟨(some 11), none, .bin .add .i (.t 10) (.c (.int .i64 4))⟩
  (.w 5 ⟨(some 12), none, .mv (.t 1)⟩
  (.w 6 ⟨(some 13), none, .mv (.t 0)⟩
  (.w 7 ⟨(some 14), none, .nilc (.t 13)⟩
  (.w 8 ⟨(some 15), none, .fa (.t 14) 2⟩
  (.rd 9 ⟨(some 16), none, .ld (.t 15) 1 false⟩
  (.w 10 ⟨(some 17), none, .bin .mul .i (.t 12) (.t 16)⟩
  (.w 11 ⟨(some 18), none, .bin .add .i (.t 11) (.t 17)⟩
  (.w 12 ⟨(some 19), none, .mv (.t 2)⟩
  (.w 13 ⟨(some 20), none, .bin .add .i (.t 18) (.t 19)⟩
  (.w 14 ⟨(some 6), none, .mv (.t 20)⟩
  .done))))))))))))))) (some [6]))
 .ret))
def r_journal_Journal_place : List RS := [.t 6]
theorem chk_journal_Journal_place : (chkC prog (max Tryd.f25.ntmps 3) s_journal_Journal_place (Tryd.f25.body.getD .skip) && chkRS prog r_journal_Journal_place Tryd.f25.results.toList) = true := by kernel_rfl
theorem mk_journal_Journal_place {G : Glob} {args : List SV} {H : List SO} {K Kp : SV → List SO → Prop} (hl : args.length = 3) (h : VFun prog G 21 s_journal_Journal_place r_journal_Journal_place args H K Kp) : Con prog G 25 args H K Kp := by
  subst_vars
  exact con_of_vc (fn := Tryd.f25) (sc := s_journal_Journal_place) (rs := r_journal_Journal_place) rfl Tryd.func25 rfl (by rw [hl]; exact chk_journal_Journal_place) (by rw [hl]; exact h)

/- (*headgate/journal.Journal).flush; loops: []; slots [(j, 0), (j, 1), (err, 3)] -/
def s_journal_Journal_flush : SCode :=
 (.seq (.reg false [] (.w 0 ⟨(some 2), none, .mv (.c (.int .i64 0))⟩
  .done) (some [0]))
 (.seq (.reg false [] (.w 0 ⟨(some 4), none, .mv (.t 0)⟩
  (.w 1 ⟨(some 5), none, .mv (.t 0)⟩
  (.w 2 ⟨(some 6), none, .nilc (.t 5)⟩
  (.w 3 ⟨(some 7), none, .fa (.t 6) 0⟩
  (.rd 4 ⟨(some 8), none, .ld (.t 7) 1 false⟩
  (.l 5 ⟨(some 9), none, .call 43 [(.t 8)]⟩ []
  (.l 6 ⟨(some 10), none, .call 42 [(.t 4), (.t 9)]⟩ []
  (.w 7 ⟨(some 3), none, .mv (.t 10)⟩
  .done) .stop) .stop)))))) (some [0, 3]))
 (.seq (.seq (.reg false [] (.w 0 ⟨(some 11), none, .mv (.t 3)⟩
  (.w 1 ⟨(some 12), none, .bin .eql .i (.t 11) (.c (.int .i64 0))⟩
  .done)) (some [0, 3, 12]))
 (.cond (.t 12) (.reg false [] (.w 0 ⟨(some 13), none, .mv (.t 0)⟩
  (.w 1 ⟨(some 14), none, .nilc (.t 13)⟩
  (.w 2 ⟨(some 15), none, .fa (.t 14) 8⟩
  (.l 3 ⟨none, none, .st 1 (.t 15) (.c (.bool false))⟩ []
  .done .stop)))) (some [3]))
 .skip))
 (.seq (.reg false [] (.w 0 ⟨(some 16), none, .mv (.t 3)⟩
  (.w 1 ⟨(some 2), none, .mv (.t 16)⟩
  .done)) (some [2]))
 .ret))))
def r_journal_Journal_flush : List RS := [.t 2]
theorem chk_journal_Journal_flush : (chkC prog (max Tryd.f27.ntmps 1) s_journal_Journal_flush (Tryd.f27.body.getD .skip) && chkRS prog r_journal_Journal_flush Tryd.f27.results.toList) = true := by kernel_rfl
theorem mk_journal_Journal_flush {G : Glob} {args : List SV} {H : List SO} {K Kp : SV → List SO → Prop} (hl : args.length = 1) (h : VFun prog G 17 s_journal_Journal_flush r_journal_Journal_flush args H K Kp) : Con prog G 27 args H K Kp := by
  subst_vars
  exact con_of_vc (fn := Tryd.f27) (sc := s_journal_Journal_flush) (rs := r_journal_Journal_flush) rfl Tryd.func27 rfl (by rw [hl]; exact chk_journal_Journal_flush) (by rw [hl]; exact h)

/- (*headgate/journal.Journal).puts; loops: []; slots [(j, 0), (half, 1), (at, 2), (text, 3), (frames, 4), (j, 5), (half, 6), (at, 7), (text, 8), (frames, 9), (seq, 11), (s, 12), (err, 13), (err, 14), (err, 15), (number, 16), (slot, 17), (err, 18)] -/
def s_journal_Journal_puts : SCode :=
 (.seq (.reg false [] (.w 0 ⟨(some 10), none, .mv (.c (.int .i64 0))⟩
  .done) (some [0, 1, 2, 3, 4]))
 (.seq (.reg false [] (.w 0 ⟨(some 19), none, .mv (.t 0)⟩
  (.w 1 ⟨(some 20), none, .nilc (.t 19)⟩
  (.w 2 ⟨(some 21), none, .fa (.t 20) 4⟩
  (.l 3 ⟨(some 22), none, .call 48 [(.t 21)]⟩ []
  (.w 4 ⟨(some 23), none, .bin .add .i (.t 22) (.c (.int .i64 1))⟩
  (.w 5 ⟨(some 11), none, .mv (.t 23)⟩
  .done)) .stop)))) (some [0, 1, 2, 3, 4, 11]))
 (.seq (.reg false [] (.w 0 ⟨(some 25), none, .mv (.t 11)⟩
  (.w 1 ⟨(some 26), none, .conv .u64 (.t 25)⟩
  (.w 2 ⟨(some 27), none, .mv (.t 3)⟩
  (.l 3 ⟨(some 28), none, .call 49 [(.t 26), (.t 27)]⟩ []
  (.w 4 ⟨(some 24), none, .mv (.t 28)⟩
  (.w 5 ⟨(some 29), none, .ext (.t 24) 0⟩
  (.w 6 ⟨(some 30), none, .ext (.t 24) 1⟩
  (.w 7 ⟨(some 12), none, .mv (.t 29)⟩
  (.w 8 ⟨(some 13), none, .mv (.t 30)⟩
  .done))))) .stop)))) (some [0, 1, 2, 4, 11, 12, 13]))
 (.seq (.seq (.reg false [] (.w 0 ⟨(some 31), none, .mv (.t 13)⟩
  (.w 1 ⟨(some 32), none, .bin .neq .i (.t 31) (.c (.int .i64 0))⟩
  .done)) (some [0, 1, 2, 4, 11, 12, 13, 32]))
 (.cond (.t 32) (.seq (.reg false [] (.w 0 ⟨(some 33), none, .mv (.t 13)⟩
  (.w 1 ⟨(some 10), none, .mv (.t 33)⟩
  .done)) (some [10]))
 .ret)
 .skip))
 (.seq (.seq (.reg true [[], [], [1], [1, 2], [1, 2, 3], [], [], [], [5, 6, 7], [], [1, 2, 3, 4, 5, 6, 7, 8, 9], [0, 1, 2, 3, 4, 5, 6, 7, 8, 9, 10], [0, 1, 2, 3, 4, 5, 6, 7, 8, 9, 10, 11]] (.w 0 ⟨(some 34), none, .mv (.t 0)⟩
  (.w 1 ⟨(some 35), none, .mv (.t 0)⟩
  (.w 2 ⟨(some 36), none, .nilc (.t 35)⟩
  (.w 3 ⟨(some 37), none, .fa (.t 36) 0⟩
  (.rd 4 ⟨(some 38), none, .ld (.t 37) 1 false⟩
  (.w 5 ⟨(some 39), none, .mv (.t 0)⟩
  (.w 6 ⟨(some 40), none, .mv (.t 1)⟩
  (.w 7 ⟨(some 41), none, .mv (.t 2)⟩
  (.w 9 ⟨(some 43), none, .mv (.t 12)⟩
  (.l 8 ⟨(some 42), none, .call 25 [(.t 39), (.t 40), (.t 41)]⟩ [(4, ⟨(some 38), none, .ld (.t 37) 1 false⟩)]
  (.l 10 ⟨(some 44), none, .call 29 [(.t 38), (.t 42), (.t 43)]⟩ []
  (.l 11 ⟨(some 45), none, .call 42 [(.t 34), (.t 44)]⟩ []
  (.w 12 ⟨(some 14), none, .mv (.t 45)⟩
  .done) .stop) .stop) .stop)))))))))) (some [0, 1, 4, 11, 14]))
 (.seq (.reg false [] (.w 0 ⟨(some 46), none, .mv (.t 14)⟩
  (.w 1 ⟨(some 47), none, .bin .neq .i (.t 46) (.c (.int .i64 0))⟩
  .done)) (some [0, 1, 4, 11, 14, 47]))
 (.cond (.t 47) (.seq (.reg false [] (.w 0 ⟨(some 48), none, .mv (.t 14)⟩
  (.w 1 ⟨(some 10), none, .mv (.t 48)⟩
  .done)) (some [10]))
 .ret)
 .skip)))
 (.seq (.seq (.reg false [] (.w 0 ⟨(some 49), none, .mv (.t 0)⟩
  (.l 1 ⟨(some 50), none, .call 27 [(.t 49)]⟩ []
  (.w 2 ⟨(some 15), none, .mv (.t 50)⟩
  .done) .stop)) (some [0, 1, 4, 11, 15]))
 (.seq (.reg false [] (.w 0 ⟨(some 51), none, .mv (.t 15)⟩
  (.w 1 ⟨(some 52), none, .bin .neq .i (.t 51) (.c (.int .i64 0))⟩
  .done)) (some [0, 1, 4, 11, 15, 52]))
 (.cond (.t 52) (.seq (.reg false [] (.w 0 ⟨(some 53), none, .mv (.t 15)⟩
  (.w 1 ⟨(some 10), none, .mv (.t 53)⟩
  .done)) (some [10]))
 .ret)
 .skip)))
 (.seq (.reg false [] (.w 0 ⟨(some 54), none, .mv (.t 11)⟩
  (.w 1 ⟨(some 55), none, .conv .u64 (.t 54)⟩
  (.l 2 ⟨(some 56), none, .call 50 [(.t 55), (.c (.int .i64 8))]⟩ []
  (.w 3 ⟨(some 16), none, .mv (.t 56)⟩
  .done) .stop))) (some [0, 1, 4, 11, 16]))
 (.seq (.reg false [] (.w 0 ⟨(some 57), none, .mv (.t 16)⟩
  (.w 1 ⟨(some 58), none, .bin .add .s (.c (.str [72, 71, 74, 67])) (.t 57)⟩
  (.w 2 ⟨(some 59), none, .mv (.t 1)⟩
  (.w 3 ⟨(some 60), none, .conv .u64 (.t 59)⟩
  (.l 4 ⟨(some 61), none, .call 50 [(.t 60), (.c (.int .i64 4))]⟩ []
  (.w 5 ⟨(some 62), none, .bin .add .s (.t 58) (.t 61)⟩
  (.w 6 ⟨(some 63), none, .mv (.t 4)⟩
  (.w 7 ⟨(some 64), none, .conv .u64 (.t 63)⟩
  (.l 8 ⟨(some 65), none, .call 50 [(.t 64), (.c (.int .i64 4))]⟩ []
  (.w 9 ⟨(some 66), none, .bin .add .s (.t 62) (.t 65)⟩
  (.w 10 ⟨(some 17), none, .mv (.t 66)⟩
  .done)) .stop)))) .stop))))) (some [0, 11, 16, 17]))
 (.seq (.reg false [] (.w 0 ⟨(some 67), none, .mv (.t 17)⟩
  (.w 1 ⟨(some 68), none, .mv (.t 17)⟩
  (.w 2 ⟨(some 69), none, .len false (.t 68)⟩
  (.w 3 ⟨(some 70), none, .bin .sub .i (.c (.int .i64 512)) (.t 69)⟩
  (.w 4 ⟨(some 71), none, .mv (.t 16)⟩
  (.w 5 ⟨(some 72), none, .len false (.t 71)⟩
  (.w 6 ⟨(some 73), none, .bin .sub .i (.t 70) (.t 72)⟩
  (.l 7 ⟨(some 74), none, .call 30 [(.c (.str [0])), (.t 73)]⟩ []
  (.w 8 ⟨(some 75), none, .mv (.t 16)⟩
  (.w 9 ⟨(some 76), none, .bin .add .s (.t 74) (.t 75)⟩
  (.w 10 ⟨(some 77), none, .bin .add .s (.t 67) (.t 76)⟩
  (.w 11 ⟨(some 17), none, .mv (.t 77)⟩
  .done)))) .stop)))))))) (some [0, 11, 17]))
 (.seq (.seq (.reg true [[], [], [1], [1, 2], [1, 2, 3], [], [5], [5, 6], [5, 6, 7], [], [9], [5, 6, 7, 8, 9, 10], [], [1, 2, 3, 4, 5, 6, 7, 8, 9, 10, 11, 12], [0, 1, 2, 3, 4, 5, 6, 7, 8, 9, 10, 11, 12, 13], [0, 1, 2, 3, 4, 5, 6, 7, 8, 9, 10, 11, 12, 13, 14]] (.w 0 ⟨(some 78), none, .mv (.t 0)⟩
  (.w 1 ⟨(some 79), none, .mv (.t 0)⟩
  (.w 2 ⟨(some 80), none, .nilc (.t 79)⟩
  (.w 3 ⟨(some 81), none, .fa (.t 80) 0⟩
  (.rd 4 ⟨(some 82), none, .ld (.t 81) 1 false⟩
  (.w 5 ⟨(some 83), none, .mv (.t 0)⟩
  (.w 6 ⟨(some 84), none, .nilc (.t 83)⟩
  (.w 7 ⟨(some 85), none, .fa (.t 84) 1⟩
  (.rd 8 ⟨(some 86), none, .ld (.t 85) 1 false⟩
  (.w 9 ⟨(some 87), none, .mv (.t 11)⟩
  (.w 10 ⟨(some 88), none, .bin .rem .i (.t 87) (.c (.int .i64 2))⟩
  (.w 11 ⟨(some 89), none, .bin .add .i (.t 86) (.t 88)⟩
  (.w 12 ⟨(some 90), none, .mv (.t 17)⟩
  (.l 13 ⟨(some 91), none, .call 29 [(.t 82), (.t 89), (.t 90)]⟩ []
  (.l 14 ⟨(some 92), none, .call 42 [(.t 78), (.t 91)]⟩ []
  (.w 15 ⟨(some 18), none, .mv (.t 92)⟩
  .done) .stop) .stop)))))))))))))) (some [0, 11, 18]))
 (.seq (.reg false [] (.w 0 ⟨(some 93), none, .mv (.t 18)⟩
  (.w 1 ⟨(some 94), none, .bin .neq .i (.t 93) (.c (.int .i64 0))⟩
  .done)) (some [0, 11, 18, 94]))
 (.cond (.t 94) (.seq (.reg false [] (.w 0 ⟨(some 95), none, .mv (.t 18)⟩
  (.w 1 ⟨(some 10), none, .mv (.t 95)⟩
  .done)) (some [10]))
 .ret)
 .skip)))
 (.seq (.reg false [] (.w 0 ⟨(some 96), none, .mv (.t 0)⟩
  (.w 1 ⟨(some 97), none, .nilc (.t 96)⟩
  (.w 2 ⟨(some 98), none, .fa (.t 97) 4⟩
  (.w 3 ⟨(some 99), none, .mv (.t 11)⟩
  (.l 4 ⟨(some 100), none, .call 23 [(.t 98), (.t 99)]⟩ []
  .done .stop))))) (some [0]))
 (.seq (.reg false [] (.w 0 ⟨(some 101), none, .mv (.t 0)⟩
  (.w 1 ⟨(some 102), none, .nilc (.t 101)⟩
  (.w 2 ⟨(some 103), none, .fa (.t 102) 8⟩
  (.l 3 ⟨none, none, .st 1 (.t 103) (.c (.bool true))⟩ []
  .done .stop)))) (some []))
 (.seq (.reg false [] (.w 0 ⟨(some 10), none, .mv (.c (.int .i64 0))⟩
  .done) (some [10]))
 .ret)))))))))))))
def r_journal_Journal_puts : List RS := [.t 10]
theorem chk_journal_Journal_puts : (chkC prog (max Tryd.f31.ntmps 5) s_journal_Journal_puts (Tryd.f31.body.getD .skip) && chkRS prog r_journal_Journal_puts Tryd.f31.results.toList) = true := by kernel_rfl
theorem mk_journal_Journal_puts {G : Glob} {args : List SV} {H : List SO} {K Kp : SV → List SO → Prop} (hl : args.length = 5) (h : VFun prog G 104 s_journal_Journal_puts r_journal_Journal_puts args H K Kp) : Con prog G 31 args H K Kp := by
  subst_vars
  exact con_of_vc (fn := Tryd.f31) (sc := s_journal_Journal_puts) (rs := r_journal_Journal_puts) rfl Tryd.func31 rfl (by rw [hl]; exact chk_journal_Journal_puts) (by rw [hl]; exact h)

/- (*headgate/journal.Journal).failed; loops: []; slots [(j, 0), (err, 1), (j, 2), (err, 3)] -/
def s_journal_Journal_failed : SCode :=
 (.seq (.reg false [] (.w 0 ⟨(some 4), none, .mv (.c (.int .i64 0))⟩
  .done) (some [0, 1]))
 (.seq (.reg false [] (.w 0 ⟨(some 5), none, .mv (.t 0)⟩
  (.w 1 ⟨(some 6), none, .mv (.t 0)⟩
  (.w 2 ⟨(some 7), none, .nilc (.t 6)⟩
  (.w 3 ⟨(some 8), none, .fa (.t 7) 9⟩
  (.rd 4 ⟨(some 9), none, .ld (.t 8) 1 false⟩
  (.w 5 ⟨(some 10), none, .mv (.t 9)⟩
  (.w 6 ⟨(some 11), (some (10, false)), .mv (.t 1)⟩
  (.w 7 ⟨(some 12), (some (10, false)), .bin .neq .i (.t 11) (.c (.int .i64 0))⟩
  (.w 8 ⟨(some 13), none, .pick (.t 10) (.c (.bool true)) (.t 12)⟩
  (.w 9 ⟨(some 14), none, .nilc (.t 5)⟩
  (.w 10 ⟨(some 15), none, .fa (.t 14) 9⟩
  (.l 11 ⟨none, none, .st 1 (.t 15) (.t 13)⟩ []
  .done .stop)))))))))))) (some [1]))
 (.seq (.reg false [] (.w 0 ⟨(some 16), none, .mv (.t 1)⟩
  (.w 1 ⟨(some 4), none, .mv (.t 16)⟩
  .done)) (some [4]))
 .ret)))
def r_journal_Journal_failed : List RS := [.t 4]
theorem chk_journal_Journal_failed : (chkC prog (max Tryd.f42.ntmps 2) s_journal_Journal_failed (Tryd.f42.body.getD .skip) && chkRS prog r_journal_Journal_failed Tryd.f42.results.toList) = true := by kernel_rfl
theorem mk_journal_Journal_failed {G : Glob} {args : List SV} {H : List SO} {K Kp : SV → List SO → Prop} (hl : args.length = 2) (h : VFun prog G 17 s_journal_Journal_failed r_journal_Journal_failed args H K Kp) : Con prog G 42 args H K Kp := by
  subst_vars
  exact con_of_vc (fn := Tryd.f42) (sc := s_journal_Journal_failed) (rs := r_journal_Journal_failed) rfl Tryd.func42 rfl (by rw [hl]; exact chk_journal_Journal_failed) (by rw [hl]; exact h)

end Go.V
