/- Symbolic code. -/
import Derived.Test.YtfdjmooifnmanaaDoorK
namespace Go.V
open Go.Proofs
/- headgate/frame.Get; loops: []; slots [(s, 0), (s, 1), (n, 2), (text, 3), (size, 4), (e, 5)] -/
def s_frame_Get : SCode :=
 (.seq (.reg false [] (.l 0 ⟨(some 2), none, .alloc [(.int .u64 0)]⟩ []
  (.l 1 ⟨(some 3), none, .alloc [(.str [])]⟩ []
  (.l 2 ⟨(some 4), none, .alloc [(.int .i64 0)]⟩ []
  (.l 3 ⟨(some 5), none, .alloc [(.int .i64 0)]⟩ []
  .done .stop) .stop) .stop) .stop) (some [0, 2, 3, 4, 5]))
 (.seq .bad /- op 1 at frame.go:49 -/
 (.seq (.reg false [] (.w 0 ⟨(some 8), none, .mv (.t 0)⟩
  (.l 1 ⟨(some 9), none, .call 41 [(.t 8)]⟩ []
  (.w 2 ⟨(some 7), none, .mv (.t 9)⟩
  (.w 3 ⟨(some 10), none, .ext (.t 7) 0⟩
  (.w 4 ⟨(some 11), none, .ext (.t 7) 1⟩
  (.w 5 ⟨(some 12), none, .ext (.t 7) 2⟩
  (.l 6 ⟨none, none, .st 1 (.t 2) (.t 10)⟩ []
  (.l 7 ⟨none, none, .st 1 (.t 3) (.t 11)⟩ []
  (.l 8 ⟨none, none, .st 1 (.t 4) (.t 12)⟩ []
  .done .stop) .stop) .stop))))) .stop)) (some [2, 3, 4, 5]))
 (.seq (.reg true [[], [], [], [0], [0, 1, 3], [0, 1, 2, 3, 4], [0, 1, 2, 3, 4, 5]] (.rd 0 ⟨(some 13), none, .ld (.t 2) 1 false⟩
  (.rd 1 ⟨(some 14), none, .ld (.t 3) 1 false⟩
  (.rd 2 ⟨(some 15), none, .ld (.t 4) 1 false⟩
  (.l 3 ⟨none, none, .st 1 (.t 2) (.t 13)⟩ [(1, ⟨(some 14), none, .ld (.t 3) 1 false⟩), (2, ⟨(some 15), none, .ld (.t 4) 1 false⟩)]
  (.l 4 ⟨none, none, .st 1 (.t 3) (.t 14)⟩ [(2, ⟨(some 15), none, .ld (.t 4) 1 false⟩)]
  (.l 5 ⟨none, none, .st 1 (.t 4) (.t 15)⟩ []
  (.l 6 ⟨none, none, .st 1 (.t 5) (.c (.int .i64 0))⟩ []
  .done .stop) .stop) .stop) .stop)))) (some [2, 3, 4, 5]))
 .ret))))
def r_frame_Get : List RS := [.c 2 1 false, .c 3 1 false, .c 4 1 false, .c 5 1 false]
theorem chk_frame_Get : (chkC prog (max Tryd.f26.ntmps 1) s_frame_Get (Tryd.f26.body.getD .skip) && chkRS prog r_frame_Get Tryd.f26.results.toList) = true := by kernel_rfl
theorem mk_frame_Get {G : Glob} {args : List SV} {H : List SO} {K Kp : SV → List SO → Prop} (hl : args.length = 1) (h : VFun prog G 16 s_frame_Get r_frame_Get args H K Kp) : Con prog G 26 args H K Kp := by
  subst_vars
  exact con_of_vc (fn := Tryd.f26) (sc := s_frame_Get) (rs := r_frame_Get) rfl Tryd.func26 rfl (by rw [hl]; exact chk_frame_Get) (by rw [hl]; exact h)

/- headgate/frame.Sectors; loops: []; slots [(length, 0), (length, 1)] -/
def s_frame_Sectors : SCode :=
 (.seq (.reg false [] (.w 0 ⟨(some 2), none, .mv (.c (.int .i64 0))⟩
  .done) (some [0]))
 (.seq (.seq (.reg false [] (.w 0 ⟨(some 3), none, .mv (.t 0)⟩
  (.w 1 ⟨(some 4), none, .bin .lss .i (.t 3) (.c (.int .i64 0))⟩
  (.w 2 ⟨(some 5), none, .mv (.t 4)⟩
  (.w 3 ⟨(some 6), (some (5, false)), .mv (.t 0)⟩
  (.w 4 ⟨(some 7), (some (5, false)), .bin .gtr .i (.t 6) (.c (.int .i64 65536))⟩
  (.w 5 ⟨(some 8), none, .pick (.t 5) (.c (.bool true)) (.t 7)⟩
  .done)))))) (some [0, 8]))
 (.cond (.t 8) (.seq (.reg false [] (.w 0 ⟨(some 2), none, .mv (.c (.int .i64 0))⟩
  .done) (some [2]))
 .ret)
 .skip))
 (.seq (.reg false [] (.w 0 ⟨(some 9), none, .mv (.t 0)⟩
  (.w 1 ⟨(some 10), none, .bin .add .i (.t 9) (.c (.int .i64 24))⟩
  (.w 2 ⟨(some 11), none, .bin .add .i (.t 10) (.c (.int .i64 512))⟩
  (.w 3 ⟨(some 12), none, .bin .sub .i (.t 11) (.c (.int .i64 1))⟩
  (.w 4 ⟨(some 13), none, .bin .quo .i (.t 12) (.c (.int .i64 512))⟩
  (.w 5 ⟨(some 2), none, .mv (.t 13)⟩
  .done)))))) (some [2]))
 .ret)))
def r_frame_Sectors : List RS := [.t 2]
theorem chk_frame_Sectors : (chkC prog (max Tryd.f28.ntmps 1) s_frame_Sectors (Tryd.f28.body.getD .skip) && chkRS prog r_frame_Sectors Tryd.f28.results.toList) = true := by kernel_rfl
theorem mk_frame_Sectors {G : Glob} {args : List SV} {H : List SO} {K Kp : SV → List SO → Prop} (hl : args.length = 1) (h : VFun prog G 14 s_frame_Sectors r_frame_Sectors args H K Kp) : Con prog G 28 args H K Kp := by
  subst_vars
  exact con_of_vc (fn := Tryd.f28) (sc := s_frame_Sectors) (rs := r_frame_Sectors) rfl Tryd.func28 rfl (by rw [hl]; exact chk_frame_Sectors) (by rw [hl]; exact h)

/- headgate/frame.Get$1; loops: []; slots [(x, 4), (x, 5), (x, 6)] -/
def s_frame_Get_1 : SCode :=
 (.seq .bad /- op 0 at frame.go:50 -/
 (.block 0 (.seq .bad /- op 0 at frame.go:50 -/
 (.cond (.t 9) (.reg false [] (.w 0 ⟨(some 4), none, .mv (.t 7)⟩
  .done) (some []))
 (.seq .bad /- op 0 at frame.go:50 -/
 (.cond (.t 11) (.seq (.reg false [] (.l 0 ⟨(some 5), none, .alloc [(.int .i64 0)]⟩ []
  (.l 1 ⟨none, none, .st 1 (.t 5) (.t 12)⟩ []
  .done .stop) .stop) (some [0, 1, 2, 3, 5]))
 (.reg true [[], [0], [], [2], [2, 3], [0, 1, 2, 3, 4]] (.w 0 ⟨(some 13), none, .fa (.t 5) 0⟩
  (.rd 1 ⟨(some 14), none, .ld (.t 13) 1 false⟩
  (.l 2 ⟨none, none, .st 1 (.t 0) (.c (.int .u64 0))⟩ [(1, ⟨(some 14), none, .ld (.t 13) 1 false⟩)]
  (.l 3 ⟨none, none, .st 1 (.t 1) (.c (.str []))⟩ [(1, ⟨(some 14), none, .ld (.t 13) 1 false⟩)]
  (.l 4 ⟨none, none, .st 1 (.t 2) (.c (.int .i64 0))⟩ [(1, ⟨(some 14), none, .ld (.t 13) 1 false⟩)]
  (.l 5 ⟨none, none, .st 1 (.t 3) (.t 14)⟩ []
  .done .stop) .stop) .stop) .stop))) (some [])))
 (.seq (.reg false [] (.w 0 ⟨(some 6), none, .mv (.t 7)⟩
  .done) (some [6]))
 (.reg false [] (.w 0 ⟨(some 8), none, .mv (.t 6)⟩
  (.l 1 ⟨none, none, .pan (.t 8)⟩ []
  .done .stop)) (some [])))))))))
def r_frame_Get_1 : List RS := []
theorem chk_frame_Get_1 : (chkC prog (max Tryd.f40.ntmps 4) s_frame_Get_1 (Tryd.f40.body.getD .skip) && chkRS prog r_frame_Get_1 Tryd.f40.results.toList) = true := by kernel_rfl
theorem mk_frame_Get_1 {G : Glob} {args : List SV} {H : List SO} {K Kp : SV → List SO → Prop} (hl : args.length = 4) (h : VFun prog G 15 s_frame_Get_1 r_frame_Get_1 args H K Kp) : Con prog G 40 args H K Kp := by
  subst_vars
  exact con_of_vc (fn := Tryd.f40) (sc := s_frame_Get_1) (rs := r_frame_Get_1) rfl Tryd.func40 rfl (by rw [hl]; exact chk_frame_Get_1) (by rw [hl]; exact h)

/- headgate/frame.got; loops: []; slots [(s, 0), (s, 1), (n, 5), (_, 6), (long, 7), (_, 8), (end, 9), (size, 10), (text, 11)] -/
def s_frame_got : SCode :=
 (.seq (.reg false [] (.w 0 ⟨(some 2), none, .mv (.c (.int .u64 0))⟩
  (.w 1 ⟨(some 3), none, .mv (.c (.str []))⟩
  (.w 2 ⟨(some 4), none, .mv (.c (.int .i64 0))⟩
  .done))) (some [0]))
 (.seq (.reg false [] (.w 0 ⟨(some 12), none, .mv (.t 0)⟩
  (.w 1 ⟨(some 13), none, .len false (.t 12)⟩
  (.w 2 ⟨(some 14), none, .bin .geq .i (.t 13) (.c (.int .i64 20))⟩
  (.w 3 ⟨(some 15), none, .mv (.t 14)⟩
  (.w 4 ⟨(some 16), (some (15, true)), .mv (.t 0)⟩
  (.l 5 ⟨(some 17), (some (15, true)), .call 36 [(.t 16), (.c (.str [72, 71, 70, 82]))]⟩ []
  (.w 6 ⟨(some 18), none, .pick (.t 15) (.t 17) (.c (.bool false))⟩
  (.l 7 ⟨(some 19), none, .call 55 [(.t 18), (.c (.int .i64 50))]⟩ []
  .done .stop)) .stop)))))) (some [0]))
 (.seq (.reg true [[], [0], [], [2], [0, 1, 2, 3], [0, 1, 2, 3, 4]] (.w 0 ⟨(some 20), none, .mv (.t 0)⟩
  (.w 1 ⟨(some 21), none, .sub (.t 20) none (some (.c (.int .i64 16)))⟩
  (.w 2 ⟨(some 22), none, .mv (.t 0)⟩
  (.w 3 ⟨(some 23), none, .sub (.t 22) (some (.c (.int .i64 16))) (some (.c (.int .i64 20)))⟩
  (.l 4 ⟨(some 24), none, .call 56 [(.t 21), (.t 23)]⟩ []
  (.l 5 ⟨(some 25), none, .call 55 [(.t 24), (.c (.int .i64 51))]⟩ []
  .done .stop) .stop))))) (some [0]))
 (.seq (.reg false [] (.w 0 ⟨(some 27), none, .mv (.t 0)⟩
  (.l 1 ⟨(some 28), none, .call 35 [(.t 27), (.c (.int .i64 4)), (.c (.int .i64 8))]⟩ []
  (.w 2 ⟨(some 26), none, .mv (.t 28)⟩
  (.w 3 ⟨(some 29), none, .ext (.t 26) 0⟩
  (.w 4 ⟨(some 30), none, .ext (.t 26) 1⟩
  (.w 5 ⟨(some 5), none, .mv (.t 29)⟩
  (.w 6 ⟨(some 6), none, .mv (.t 30)⟩
  .done))))) .stop)) (some [0, 5]))
 (.seq (.reg false [] (.w 0 ⟨(some 32), none, .mv (.t 0)⟩
  (.l 1 ⟨(some 33), none, .call 35 [(.t 32), (.c (.int .i64 12)), (.c (.int .i64 4))]⟩ []
  (.w 2 ⟨(some 31), none, .mv (.t 33)⟩
  (.w 3 ⟨(some 34), none, .ext (.t 31) 0⟩
  (.w 4 ⟨(some 35), none, .ext (.t 31) 1⟩
  (.w 5 ⟨(some 7), none, .mv (.t 34)⟩
  (.w 6 ⟨(some 8), none, .mv (.t 35)⟩
  .done))))) .stop)) (some [0, 5, 7]))
 (.seq (.reg false [] (.w 0 ⟨(some 36), none, .mv (.t 7)⟩
  (.w 1 ⟨(some 37), none, .bin .leq .i (.t 36) (.c (.int .u64 65536))⟩
  (.l 2 ⟨(some 38), none, .call 55 [(.t 37), (.c (.int .i64 50))]⟩ []
  .done .stop))) (some [0, 5, 7]))
 (.seq (.reg false [] (.w 0 ⟨(some 39), none, .mv (.t 7)⟩
  (.w 1 ⟨(some 40), none, .conv .i64 (.t 39)⟩
  (.w 2 ⟨(some 41), none, .bin .add .i (.c (.int .i64 20)) (.t 40)⟩
  (.w 3 ⟨(some 9), none, .mv (.t 41)⟩
  .done)))) (some [0, 5, 7, 9]))
 (.seq (.reg false [] (.w 0 ⟨(some 42), none, .mv (.t 7)⟩
  (.w 1 ⟨(some 43), none, .conv .i64 (.t 42)⟩
  (.l 2 ⟨(some 44), none, .call 28 [(.t 43)]⟩ []
  (.w 3 ⟨(some 45), none, .bin .mul .i (.t 44) (.c (.int .i64 512))⟩
  (.w 4 ⟨(some 10), none, .mv (.t 45)⟩
  .done)) .stop))) (some [0, 5, 9, 10]))
 (.seq (.reg false [] (.w 0 ⟨(some 46), none, .mv (.t 10)⟩
  (.w 1 ⟨(some 47), none, .mv (.t 0)⟩
  (.w 2 ⟨(some 48), none, .len false (.t 47)⟩
  (.w 3 ⟨(some 49), none, .bin .leq .i (.t 46) (.t 48)⟩
  (.l 4 ⟨(some 50), none, .call 55 [(.t 49), (.c (.int .i64 50))]⟩ []
  .done .stop))))) (some [0, 5, 9, 10]))
 (.seq (.reg false [] (.w 0 ⟨(some 51), none, .mv (.t 0)⟩
  (.w 1 ⟨(some 52), none, .mv (.t 9)⟩
  (.w 2 ⟨(some 53), none, .sub (.t 51) (some (.c (.int .i64 20))) (some (.t 52))⟩
  (.w 3 ⟨(some 11), none, .mv (.t 53)⟩
  .done)))) (some [0, 5, 9, 10, 11]))
 (.seq (.reg false [] (.w 0 ⟨(some 54), none, .mv (.t 11)⟩
  (.w 1 ⟨(some 55), none, .mv (.t 0)⟩
  (.w 2 ⟨(some 56), none, .mv (.t 9)⟩
  (.w 3 ⟨(some 57), none, .mv (.t 9)⟩
  (.w 4 ⟨(some 58), none, .bin .add .i (.t 57) (.c (.int .i64 4))⟩
  (.w 5 ⟨(some 59), none, .sub (.t 55) (some (.t 56)) (some (.t 58))⟩
  (.l 6 ⟨(some 60), none, .call 56 [(.t 54), (.t 59)]⟩ []
  (.l 7 ⟨(some 61), none, .call 55 [(.t 60), (.c (.int .i64 51))]⟩ []
  .done .stop) .stop))))))) (some [0, 5, 9, 10, 11]))
 (.seq (.reg false [] (.w 0 ⟨(some 62), none, .mv (.t 0)⟩
  (.w 1 ⟨(some 63), none, .mv (.t 9)⟩
  (.w 2 ⟨(some 64), none, .bin .add .i (.t 63) (.c (.int .i64 4))⟩
  (.w 3 ⟨(some 65), none, .mv (.t 10)⟩
  (.w 4 ⟨(some 66), none, .sub (.t 62) (some (.t 64)) (some (.t 65))⟩
  (.l 5 ⟨(some 67), none, .call 57 [(.t 66), (.c (.str [0]))]⟩ []
  (.w 6 ⟨(some 68), none, .bin .eql .s (.t 67) (.c (.str []))⟩
  (.l 7 ⟨(some 69), none, .call 55 [(.t 68), (.c (.int .i64 50))]⟩ []
  .done .stop)) .stop)))))) (some [5, 10, 11]))
 (.seq (.reg false [] (.w 0 ⟨(some 70), none, .mv (.t 5)⟩
  (.w 1 ⟨(some 71), none, .mv (.t 11)⟩
  (.w 2 ⟨(some 72), none, .mv (.t 10)⟩
  (.w 3 ⟨(some 2), none, .mv (.t 70)⟩
  (.w 4 ⟨(some 3), none, .mv (.t 71)⟩
  (.w 5 ⟨(some 4), none, .mv (.t 72)⟩
  .done)))))) (some [2, 3, 4]))
 .ret)))))))))))))
def r_frame_got : List RS := [.t 2, .t 3, .t 4]
theorem chk_frame_got : (chkC prog (max Tryd.f41.ntmps 1) s_frame_got (Tryd.f41.body.getD .skip) && chkRS prog r_frame_got Tryd.f41.results.toList) = true := by kernel_rfl
theorem mk_frame_got {G : Glob} {args : List SV} {H : List SO} {K Kp : SV → List SO → Prop} (hl : args.length = 1) (h : VFun prog G 73 s_frame_got r_frame_got args H K Kp) : Con prog G 41 args H K Kp := by
  subst_vars
  exact con_of_vc (fn := Tryd.f41) (sc := s_frame_got) (rs := r_frame_got) rfl Tryd.func41 rfl (by rw [hl]; exact chk_frame_got) (by rw [hl]; exact h)

/- headgate/frame.Put; loops: []; slots [(n, 0), (text, 1), (n, 2), (text, 3), (h, 6)] -/
def s_frame_Put : SCode :=
 (.seq (.reg false [] (.w 0 ⟨(some 4), none, .mv (.c (.str []))⟩
  (.w 1 ⟨(some 5), none, .mv (.c (.int .i64 0))⟩
  .done)) (some [0, 1]))
 (.seq (.seq (.reg false [] (.w 0 ⟨(some 7), none, .mv (.t 1)⟩
  (.w 1 ⟨(some 8), none, .len false (.t 7)⟩
  (.w 2 ⟨(some 9), none, .bin .gtr .i (.t 8) (.c (.int .i64 65536))⟩
  .done))) (some [0, 1, 9]))
 (.cond (.t 9) (.seq (.reg false [] (.w 0 ⟨(some 4), none, .mv (.c (.str []))⟩
  (.w 1 ⟨(some 5), none, .mv (.c (.int .i64 2))⟩
  .done)) (some [4, 5]))
 .ret)
 .skip))
 (.seq (.reg false [] (.w 0 ⟨(some 10), none, .mv (.t 0)⟩
  (.l 1 ⟨(some 11), none, .call 50 [(.t 10), (.c (.int .i64 8))]⟩ []
  (.w 2 ⟨(some 12), none, .bin .add .s (.c (.str [72, 71, 70, 82])) (.t 11)⟩
  (.w 3 ⟨(some 13), none, .mv (.t 1)⟩
  (.w 4 ⟨(some 14), none, .len false (.t 13)⟩
  (.w 5 ⟨(some 15), none, .conv .u64 (.t 14)⟩
  (.l 6 ⟨(some 16), none, .call 50 [(.t 15), (.c (.int .i64 4))]⟩ []
  (.w 7 ⟨(some 17), none, .bin .add .s (.t 12) (.t 16)⟩
  (.w 8 ⟨(some 6), none, .mv (.t 17)⟩
  .done)) .stop))))) .stop)) (some [1, 6]))
 (.seq (.reg false [] (.w 0 ⟨(some 18), none, .mv (.t 6)⟩
  (.w 1 ⟨(some 19), none, .mv (.t 6)⟩
  (.l 2 ⟨(some 20), none, .call 64 [(.t 19)]⟩ []
  (.w 3 ⟨(some 21), none, .bin .add .s (.t 18) (.t 20)⟩
  (.w 4 ⟨(some 22), none, .mv (.t 1)⟩
  (.w 5 ⟨(some 23), none, .bin .add .s (.t 21) (.t 22)⟩
  (.w 6 ⟨(some 24), none, .mv (.t 1)⟩
  (.l 7 ⟨(some 25), none, .call 64 [(.t 24)]⟩ []
  (.w 8 ⟨(some 26), none, .bin .add .s (.t 23) (.t 25)⟩
  (.l 9 ⟨(some 27), none, .call 63 [(.t 26), (.c (.int .i64 512))]⟩ []
  (.w 10 ⟨(some 4), none, .mv (.t 27)⟩
  (.w 11 ⟨(some 5), none, .mv (.c (.int .i64 0))⟩
  .done)) .stop)) .stop))))) .stop))) (some [4, 5]))
 .ret))))
def r_frame_Put : List RS := [.t 4, .t 5]
theorem chk_frame_Put : (chkC prog (max Tryd.f49.ntmps 2) s_frame_Put (Tryd.f49.body.getD .skip) && chkRS prog r_frame_Put Tryd.f49.results.toList) = true := by kernel_rfl
theorem mk_frame_Put {G : Glob} {args : List SV} {H : List SO} {K Kp : SV → List SO → Prop} (hl : args.length = 2) (h : VFun prog G 28 s_frame_Put r_frame_Put args H K Kp) : Con prog G 49 args H K Kp := by
  subst_vars
  exact con_of_vc (fn := Tryd.f49) (sc := s_frame_Put) (rs := r_frame_Put) rfl Tryd.func49 rfl (by rw [hl]; exact chk_frame_Put) (by rw [hl]; exact h)

/- headgate/frame.want; loops: []; slots [(ok, 0), (err, 1), (ok, 2), (err, 3)] -/
def s_frame_want : SCode :=
 (.seq (.reg false [] (.w 0 ⟨(some 4), none, .mv (.t 0)⟩
  (.w 1 ⟨(some 5), none, .un .not (.t 4)⟩
  .done)) (some [1, 5]))
 (.cond (.t 5) (.reg false [] (.w 0 ⟨(some 6), none, .mv (.t 1)⟩
  (.w 1 ⟨(some 7), none, .bld [(.int .i64 0)] [(0, 1, (.t 6))]⟩
  (.w 2 ⟨(some 8), none, .mki 86 (.t 7)⟩
  (.l 3 ⟨none, none, .pan (.t 8)⟩ []
  .done .stop)))) (some []))
 .skip))
def r_frame_want : List RS := []
theorem chk_frame_want : (chkC prog (max Tryd.f55.ntmps 2) s_frame_want (Tryd.f55.body.getD .skip) && chkRS prog r_frame_want Tryd.f55.results.toList) = true := by kernel_rfl
theorem mk_frame_want {G : Glob} {args : List SV} {H : List SO} {K Kp : SV → List SO → Prop} (hl : args.length = 2) (h : VFun prog G 9 s_frame_want r_frame_want args H K Kp) : Con prog G 55 args H K Kp := by
  subst_vars
  exact con_of_vc (fn := Tryd.f55) (sc := s_frame_want) (rs := r_frame_want) rfl Tryd.func55 rfl (by rw [hl]; exact chk_frame_want) (by rw [hl]; exact h)

/- headgate/fields.Big; loops: []; slots [(s, 0), (at, 1), (n, 2), (s, 3), (at, 4), (n, 5)] -/
def s_fields_Big : SCode :=
 (.seq (.reg false [] (.w 0 ⟨(some 6), none, .mv (.c (.int .u64 0))⟩
  (.w 1 ⟨(some 7), none, .mv (.c (.bool false))⟩
  .done)) (some [0, 1, 2]))
 (.seq (.reg false [] (.w 0 ⟨(some 8), none, .mv (.t 0)⟩
  (.w 1 ⟨(some 9), none, .mv (.t 1)⟩
  (.w 2 ⟨(some 10), none, .mv (.t 2)⟩
  (.l 3 ⟨(some 11), none, .call 52 [(.t 8), (.t 9), (.t 10), (.c (.bool true))]⟩ []
  (.w 4 ⟨(some 12), none, .ext (.t 11) 0⟩
  (.w 5 ⟨(some 13), none, .ext (.t 11) 1⟩
  (.w 6 ⟨(some 6), none, .mv (.t 12)⟩
  (.w 7 ⟨(some 7), none, .mv (.t 13)⟩
  .done)))) .stop)))) (some [6, 7]))
 .ret))
def r_fields_Big : List RS := [.t 6, .t 7]
theorem chk_fields_Big : (chkC prog (max Tryd.f35.ntmps 3) s_fields_Big (Tryd.f35.body.getD .skip) && chkRS prog r_fields_Big Tryd.f35.results.toList) = true := by kernel_rfl
theorem mk_fields_Big {G : Glob} {args : List SV} {H : List SO} {K Kp : SV → List SO → Prop} (hl : args.length = 3) (h : VFun prog G 14 s_fields_Big r_fields_Big args H K Kp) : Con prog G 35 args H K Kp := by
  subst_vars
  exact con_of_vc (fn := Tryd.f35) (sc := s_fields_Big) (rs := r_fields_Big) rfl Tryd.func35 rfl (by rw [hl]; exact chk_fields_Big) (by rw [hl]; exact h)

/- headgate/fields.PutBig; loops: []; slots [(v, 0), (n, 1), (v, 2), (n, 3)] -/
def s_fields_PutBig : SCode :=
 (.seq (.reg false [] (.w 0 ⟨(some 4), none, .mv (.c (.str []))⟩
  .done) (some [0, 1]))
 (.seq (.reg false [] (.w 0 ⟨(some 5), none, .mv (.t 0)⟩
  (.w 1 ⟨(some 6), none, .mv (.t 1)⟩
  (.l 2 ⟨(some 7), none, .call 65 [(.t 5), (.t 6), (.c (.bool true))]⟩ []
  (.w 3 ⟨(some 4), none, .mv (.t 7)⟩
  .done) .stop))) (some [4]))
 .ret))
def r_fields_PutBig : List RS := [.t 4]
theorem chk_fields_PutBig : (chkC prog (max Tryd.f50.ntmps 2) s_fields_PutBig (Tryd.f50.body.getD .skip) && chkRS prog r_fields_PutBig Tryd.f50.results.toList) = true := by kernel_rfl
theorem mk_fields_PutBig {G : Glob} {args : List SV} {H : List SO} {K Kp : SV → List SO → Prop} (hl : args.length = 2) (h : VFun prog G 8 s_fields_PutBig r_fields_PutBig args H K Kp) : Con prog G 50 args H K Kp := by
  subst_vars
  exact con_of_vc (fn := Tryd.f50) (sc := s_fields_PutBig) (rs := r_fields_PutBig) rfl Tryd.func50 rfl (by rw [hl]; exact chk_fields_PutBig) (by rw [hl]; exact h)

/- headgate/fields.get[uint64]; loops: [[0, 1, 10, 33, 34, 35]]; slots [(s, 0), (at, 1), (n, 2), (big, 3), (s, 4), (at, 5), (n, 6), (big, 7), (v, 10), (i, 11), (k, 12)] -/
def s_fields_get_uint64_ : SCode :=
 (.seq (.reg false [] (.w 0 ⟨(some 8), none, .mv (.c (.int .u64 0))⟩
  (.w 1 ⟨(some 9), none, .mv (.c (.bool false))⟩
  .done)) (some [0, 1, 2, 3]))
 (.seq (.seq (.reg false [] (.w 0 ⟨(some 13), none, .mv (.t 2)⟩
  (.w 1 ⟨(some 14), none, .bin .lss .i (.t 13) (.c (.int .i64 1))⟩
  (.w 2 ⟨(some 15), none, .mv (.t 14)⟩
  (.w 3 ⟨(some 16), (some (15, false)), .mv (.t 2)⟩
  (.w 4 ⟨(some 17), (some (15, false)), .bin .gtr .i (.t 16) (.c (.int .i64 8))⟩
  (.w 5 ⟨(some 18), none, .pick (.t 15) (.c (.bool true)) (.t 17)⟩
  (.w 6 ⟨(some 19), none, .mv (.t 18)⟩
  (.w 7 ⟨(some 20), (some (19, false)), .mv (.t 1)⟩
  (.w 8 ⟨(some 21), (some (19, false)), .bin .lss .i (.t 20) (.c (.int .i64 0))⟩
  (.w 9 ⟨(some 22), none, .pick (.t 19) (.c (.bool true)) (.t 21)⟩
  (.w 10 ⟨(some 23), none, .mv (.t 22)⟩
  (.w 11 ⟨(some 24), (some (23, false)), .mv (.t 1)⟩
  (.w 12 ⟨(some 25), (some (23, false)), .mv (.t 0)⟩
  (.w 13 ⟨(some 26), (some (23, false)), .len false (.t 25)⟩
  (.w 14 ⟨(some 27), (some (23, false)), .mv (.t 2)⟩
  (.w 15 ⟨(some 28), (some (23, false)), .bin .sub .i (.t 26) (.t 27)⟩
  (.w 16 ⟨(some 29), (some (23, false)), .bin .gtr .i (.t 24) (.t 28)⟩
  (.w 17 ⟨(some 30), none, .pick (.t 23) (.c (.bool true)) (.t 29)⟩
  .done)))))))))))))))))) (some [0, 1, 2, 3, 30]))
 (.cond (.t 30) (.seq (.reg false [] (.w 0 ⟨(some 8), none, .mv (.c (.int .u64 0))⟩
  (.w 1 ⟨(some 9), none, .mv (.c (.bool false))⟩
  .done)) (some [8, 9]))
 .ret)
 .skip))
 (.seq (.reg false [] (.w 0 ⟨(some 10), none, .mv (.c (.int .u64 0))⟩
  .done) (some [0, 1, 2, 3, 10]))
 (.seq (.seq (.reg false [] (.w 0 ⟨(some 31), none, .mv (.t 2)⟩
  (.w 1 ⟨(some 32), none, .mv (.t 3)⟩
  (.l 2 ⟨(some 33), none, .call 66 [(.t 31), (.t 32)]⟩ []
  (.w 3 ⟨(some 34), none, .len true (.t 33)⟩
  (.w 4 ⟨(some 35), none, .mv (.c (.int .i64 0))⟩
  .done)) .stop))) (some [0, 1, 10, 33, 34, 35]))
 (.block 0 (.loop (.seq (.reg false [] (.w 0 ⟨(some 36), none, .bin .lss .i (.t 35) (.t 34)⟩
  .done) (some [0, 1, 10, 33, 34, 35, 36]))
 (.seq (.cond (.t 36) .skip
 (.exit 0))
 (.seq (.block 1 (.seq (.reg false [] (.w 0 ⟨(some 37), none, .mv (.t 35)⟩
  (.w 1 ⟨(some 38), none, .ia (.t 33) (.t 35) 1⟩
  (.rd 2 ⟨(some 39), none, .ld (.t 38) 1 false⟩
  (.w 3 ⟨(some 11), none, .mv (.t 37)⟩
  (.w 4 ⟨(some 12), none, .mv (.t 39)⟩
  .done))))) (some [0, 1, 10, 11, 12, 33, 34, 35]))
 (.reg false [] (.w 0 ⟨(some 40), none, .mv (.t 10)⟩
  (.w 1 ⟨(some 41), none, .mv (.t 0)⟩
  (.w 2 ⟨(some 42), none, .mv (.t 1)⟩
  (.w 3 ⟨(some 43), none, .mv (.t 11)⟩
  (.w 4 ⟨(some 44), none, .bin .add .i (.t 42) (.t 43)⟩
  (.w 5 ⟨(some 45), none, .idx (.t 41) (.t 44)⟩
  (.w 6 ⟨(some 46), none, .conv .u64 (.t 45)⟩
  (.w 7 ⟨(some 47), none, .mv (.t 12)⟩
  (.w 8 ⟨(some 48), none, .bin .shl .i (.t 46) (.t 47)⟩
  (.w 9 ⟨(some 49), none, .bin .or .i (.t 40) (.t 48)⟩
  (.w 10 ⟨(some 10), none, .mv (.t 49)⟩
  .done))))))))))) (some [0, 1, 10, 33, 34, 35]))))
 (.reg false [] (.w 0 ⟨(some 50), none, .bin .add .i (.t 35) (.c (.int .i64 1))⟩
  (.w 1 ⟨(some 35), none, .mv (.t 50)⟩
  .done)) (some [0, 1, 10, 33, 34, 35]))))))))
 (.seq (.reg false [] (.w 0 ⟨(some 51), none, .mv (.t 10)⟩
  (.w 1 ⟨(some 8), none, .mv (.t 51)⟩
  (.w 2 ⟨(some 9), none, .mv (.c (.bool true))⟩
  .done))) (some [8, 9]))
 .ret)))))
def r_fields_get_uint64_ : List RS := [.t 8, .t 9]
theorem chk_fields_get_uint64_ : (chkC prog (max Tryd.f52.ntmps 4) s_fields_get_uint64_ (Tryd.f52.body.getD .skip) && chkRS prog r_fields_get_uint64_ Tryd.f52.results.toList) = true := by kernel_rfl
theorem mk_fields_get_uint64_ {G : Glob} {args : List SV} {H : List SO} {K Kp : SV → List SO → Prop} (hl : args.length = 4) (h : VFun prog G 52 s_fields_get_uint64_ r_fields_get_uint64_ args H K Kp) : Con prog G 52 args H K Kp := by
  subst_vars
  exact con_of_vc (fn := Tryd.f52) (sc := s_fields_get_uint64_) (rs := r_fields_get_uint64_) rfl Tryd.func52 rfl (by rw [hl]; exact chk_fields_get_uint64_) (by rw [hl]; exact h)

/- headgate/fields.Pad; loops: []; slots [(s, 0), (n, 1), (s, 2), (n, 3)] -/
def s_fields_Pad : SCode :=
 (.seq (.reg false [] (.w 0 ⟨(some 4), none, .mv (.c (.str []))⟩
  .done) (some [0, 1]))
 (.seq (.seq (.reg false [] (.w 0 ⟨(some 5), none, .mv (.t 1)⟩
  (.w 1 ⟨(some 6), none, .bin .lss .i (.t 5) (.c (.int .i64 1))⟩
  (.w 2 ⟨(some 7), none, .mv (.t 6)⟩
  (.w 3 ⟨(some 8), (some (7, false)), .mv (.t 1)⟩
  (.w 4 ⟨(some 9), (some (7, false)), .bin .gtr .i (.t 8) (.c (.int .i64 4096))⟩
  (.w 5 ⟨(some 10), none, .pick (.t 7) (.c (.bool true)) (.t 9)⟩
  (.w 6 ⟨(some 11), none, .mv (.t 10)⟩
  (.w 7 ⟨(some 12), (some (11, false)), .mv (.t 0)⟩
  (.w 8 ⟨(some 13), (some (11, false)), .len false (.t 12)⟩
  (.w 9 ⟨(some 14), (some (11, false)), .mv (.t 1)⟩
  (.w 10 ⟨(some 15), (some (11, false)), .bin .rem .i (.t 13) (.t 14)⟩
  (.w 11 ⟨(some 16), (some (11, false)), .bin .eql .i (.t 15) (.c (.int .i64 0))⟩
  (.w 12 ⟨(some 17), none, .pick (.t 11) (.c (.bool true)) (.t 16)⟩
  .done))))))))))))) (some [0, 1, 17]))
 (.cond (.t 17) (.seq (.reg false [] (.w 0 ⟨(some 18), none, .mv (.t 0)⟩
  (.w 1 ⟨(some 4), none, .mv (.t 18)⟩
  .done)) (some [4]))
 .ret)
 .skip))
 (.seq (.reg false [] (.w 0 ⟨(some 19), none, .mv (.t 0)⟩
  (.w 1 ⟨(some 20), none, .mv (.t 1)⟩
  (.w 2 ⟨(some 21), none, .mv (.t 0)⟩
  (.w 3 ⟨(some 22), none, .len false (.t 21)⟩
  (.w 4 ⟨(some 23), none, .mv (.t 1)⟩
  (.w 5 ⟨(some 24), none, .bin .rem .i (.t 22) (.t 23)⟩
  (.w 6 ⟨(some 25), none, .bin .sub .i (.t 20) (.t 24)⟩
  (.l 7 ⟨(some 26), none, .mks (byteC ty_uint8) (byteC ty_uint8).dflt 1 (.t 25)⟩ []
  (.rd 8 ⟨(some 27), none, .b2s (.t 26)⟩
  (.w 9 ⟨(some 28), none, .bin .add .s (.t 19) (.t 27)⟩
  (.w 10 ⟨(some 4), none, .mv (.t 28)⟩
  .done))) .stop)))))))) (some [4]))
 .ret)))
def r_fields_Pad : List RS := [.t 4]
theorem chk_fields_Pad : (chkC prog (max Tryd.f63.ntmps 2) s_fields_Pad (Tryd.f63.body.getD .skip) && chkRS prog r_fields_Pad Tryd.f63.results.toList) = true := by kernel_rfl
theorem mk_fields_Pad {G : Glob} {args : List SV} {H : List SO} {K Kp : SV → List SO → Prop} (hl : args.length = 2) (h : VFun prog G 29 s_fields_Pad r_fields_Pad args H K Kp) : Con prog G 63 args H K Kp := by
  subst_vars
  exact con_of_vc (fn := Tryd.f63) (sc := s_fields_Pad) (rs := r_fields_Pad) rfl Tryd.func63 rfl (by rw [hl]; exact chk_fields_Pad) (by rw [hl]; exact h)

/- headgate/fields.put[uint64]; loops: [[0, 7, 18, 19, 20]]; slots [(v, 0), (n, 1), (big, 2), (v, 3), (n, 4), (big, 5), (b, 7), (_, 8), (k, 9)] -/
def s_fields_put_uint64_ : SCode :=
 (.seq (.reg false [] (.w 0 ⟨(some 6), none, .mv (.c (.str []))⟩
  .done) (some [0, 1, 2]))
 (.seq (.seq (.reg false [] (.w 0 ⟨(some 10), none, .mv (.t 1)⟩
  (.w 1 ⟨(some 11), none, .bin .lss .i (.t 10) (.c (.int .i64 1))⟩
  (.w 2 ⟨(some 12), none, .mv (.t 11)⟩
  (.w 3 ⟨(some 13), (some (12, false)), .mv (.t 1)⟩
  (.w 4 ⟨(some 14), (some (12, false)), .bin .gtr .i (.t 13) (.c (.int .i64 8))⟩
  (.w 5 ⟨(some 15), none, .pick (.t 12) (.c (.bool true)) (.t 14)⟩
  .done)))))) (some [0, 1, 2, 15]))
 (.cond (.t 15) (.seq (.reg false [] (.w 0 ⟨(some 6), none, .mv (.c (.str []))⟩
  .done) (some [6]))
 .ret)
 .skip))
 (.seq (.reg false [] (.w 0 ⟨(some 7), none, .mv (.c .nils)⟩
  .done) (some [0, 1, 2, 7]))
 (.seq (.seq (.reg false [] (.w 0 ⟨(some 16), none, .mv (.t 1)⟩
  (.w 1 ⟨(some 17), none, .mv (.t 2)⟩
  (.l 2 ⟨(some 18), none, .call 66 [(.t 16), (.t 17)]⟩ []
  (.w 3 ⟨(some 19), none, .len true (.t 18)⟩
  (.w 4 ⟨(some 20), none, .mv (.c (.int .i64 0))⟩
  .done)) .stop))) (some [0, 7, 18, 19, 20]))
 (.block 0 (.loop (.seq (.reg false [] (.w 0 ⟨(some 21), none, .bin .lss .i (.t 20) (.t 19)⟩
  .done) (some [0, 7, 18, 19, 20, 21]))
 (.seq (.cond (.t 21) .skip
 (.exit 0))
 (.seq (.block 1 (.seq (.reg false [] (.w 0 ⟨(some 22), none, .ia (.t 18) (.t 20) 1⟩
  (.rd 1 ⟨(some 23), none, .ld (.t 22) 1 false⟩
  (.w 2 ⟨(some 9), none, .mv (.t 23)⟩
  .done))) (some [0, 7, 9, 18, 19, 20]))
 (.reg false [] (.w 0 ⟨(some 24), none, .mv (.t 7)⟩
  (.w 1 ⟨(some 25), none, .mv (.t 0)⟩
  (.w 2 ⟨(some 26), none, .mv (.t 9)⟩
  (.w 3 ⟨(some 27), none, .bin .shr .i (.t 25) (.t 26)⟩
  (.w 4 ⟨(some 28), none, .conv .u8 (.t 27)⟩
  (.l 5 ⟨(some 29), none, .bsl (byteC ty_uint8) 1 [(0, 1, (.t 28))]⟩ []
  (.l 6 ⟨(some 30), none, .app 5 1 1 (.t 24) (.t 29)⟩ []
  (.w 7 ⟨(some 7), none, .mv (.t 30)⟩
  .done) .stop) .stop)))))) (some [0, 7, 18, 19, 20]))))
 (.reg false [] (.w 0 ⟨(some 31), none, .bin .add .i (.t 20) (.c (.int .i64 1))⟩
  (.w 1 ⟨(some 20), none, .mv (.t 31)⟩
  .done)) (some [0, 7, 18, 19, 20]))))))))
 (.seq (.reg false [] (.w 0 ⟨(some 32), none, .mv (.t 7)⟩
  (.rd 1 ⟨(some 33), none, .b2s (.t 32)⟩
  (.w 2 ⟨(some 6), none, .mv (.t 33)⟩
  .done))) (some [6]))
 .ret)))))
def r_fields_put_uint64_ : List RS := [.t 6]
theorem chk_fields_put_uint64_ : (chkC prog (max Tryd.f65.ntmps 3) s_fields_put_uint64_ (Tryd.f65.body.getD .skip) && chkRS prog r_fields_put_uint64_ Tryd.f65.results.toList) = true := by kernel_rfl
theorem mk_fields_put_uint64_ {G : Glob} {args : List SV} {H : List SO} {K Kp : SV → List SO → Prop} (hl : args.length = 3) (h : VFun prog G 34 s_fields_put_uint64_ r_fields_put_uint64_ args H K Kp) : Con prog G 65 args H K Kp := by
  subst_vars
  exact con_of_vc (fn := Tryd.f65) (sc := s_fields_put_uint64_) (rs := r_fields_put_uint64_) rfl Tryd.func65 rfl (by rw [hl]; exact chk_fields_put_uint64_) (by rw [hl]; exact h)

/- headgate/fields.shifts; loops: [[0, 1, 5, 7, 8]]; slots [(n, 0), (big, 1), (n, 2), (big, 3), (l, 5), (i, 6)] -/
def s_fields_shifts : SCode :=
 (.seq (.reg false [] (.w 0 ⟨(some 4), none, .mv (.c .nils)⟩
  .done) (some [0, 1]))
 (.seq (.reg false [] (.w 0 ⟨(some 5), none, .mv (.c .nils)⟩
  .done) (some [0, 1, 5]))
 (.seq (.seq (.reg false [] (.w 0 ⟨(some 7), none, .mv (.t 0)⟩
  (.w 1 ⟨(some 8), none, .mv (.c (.int .i64 0))⟩
  .done)) (some [0, 1, 5, 7, 8]))
 (.block 0 (.loop (.seq (.reg false [] (.w 0 ⟨(some 9), none, .bin .lss .i (.t 8) (.t 7)⟩
  .done) (some [0, 1, 5, 7, 8, 9]))
 (.seq (.cond (.t 9) .skip
 (.exit 0))
 (.seq (.block 1 (.seq (.reg false [] (.w 0 ⟨(some 10), none, .mv (.t 8)⟩
  (.w 1 ⟨(some 6), none, .mv (.t 10)⟩
  .done)) (some [0, 1, 5, 6, 7, 8]))
 (.seq (.reg false [] (.w 0 ⟨(some 11), none, .mv (.t 1)⟩
  .done) (some [0, 1, 5, 6, 7, 8, 11]))
 (.cond (.t 11) (.reg false [] (.w 0 ⟨(some 12), none, .mv (.t 5)⟩
  (.w 1 ⟨(some 13), none, .mv (.t 0)⟩
  (.w 2 ⟨(some 14), none, .bin .sub .i (.t 13) (.c (.int .i64 1))⟩
  (.w 3 ⟨(some 15), none, .mv (.t 6)⟩
  (.w 4 ⟨(some 16), none, .bin .sub .i (.t 14) (.t 15)⟩
  (.w 5 ⟨(some 17), none, .bin .mul .i (.c (.int .i64 8)) (.t 16)⟩
  (.l 6 ⟨(some 18), none, .bsl (intC .i64 ty_int) 1 [(0, 1, (.t 17))]⟩ []
  (.l 7 ⟨(some 19), none, .app 3 1 8 (.t 12) (.t 18)⟩ []
  (.w 8 ⟨(some 5), none, .mv (.t 19)⟩
  .done) .stop) .stop))))))) (some [0, 1, 5, 7, 8]))
 (.reg false [] (.w 0 ⟨(some 20), none, .mv (.t 5)⟩
  (.w 1 ⟨(some 21), none, .mv (.t 6)⟩
  (.w 2 ⟨(some 22), none, .bin .mul .i (.c (.int .i64 8)) (.t 21)⟩
  (.l 3 ⟨(some 23), none, .bsl (intC .i64 ty_int) 1 [(0, 1, (.t 22))]⟩ []
  (.l 4 ⟨(some 24), none, .app 3 1 8 (.t 20) (.t 23)⟩ []
  (.w 5 ⟨(some 5), none, .mv (.t 24)⟩
  .done) .stop) .stop)))) (some [0, 1, 5, 7, 8]))))))
 (.reg false [] (.w 0 ⟨(some 25), none, .bin .add .i (.t 8) (.c (.int .i64 1))⟩
  (.w 1 ⟨(some 8), none, .mv (.t 25)⟩
  .done)) (some [0, 1, 5, 7, 8]))))))))
 (.seq (.reg false [] (.w 0 ⟨(some 26), none, .mv (.t 5)⟩
  (.w 1 ⟨(some 4), none, .mv (.t 26)⟩
  .done)) (some [4]))
 .ret))))
def r_fields_shifts : List RS := [.t 4]
theorem chk_fields_shifts : (chkC prog (max Tryd.f66.ntmps 2) s_fields_shifts (Tryd.f66.body.getD .skip) && chkRS prog r_fields_shifts Tryd.f66.results.toList) = true := by kernel_rfl
theorem mk_fields_shifts {G : Glob} {args : List SV} {H : List SO} {K Kp : SV → List SO → Prop} (hl : args.length = 2) (h : VFun prog G 27 s_fields_shifts r_fields_shifts args H K Kp) : Con prog G 66 args H K Kp := by
  subst_vars
  exact con_of_vc (fn := Tryd.f66) (sc := s_fields_shifts) (rs := r_fields_shifts) rfl Tryd.func66 rfl (by rw [hl]; exact chk_fields_shifts) (by rw [hl]; exact h)

/- headgate/fields.PutLittle; loops: []; slots [(v, 0), (n, 1), (v, 2), (n, 3)] -/
def s_fields_PutLittle : SCode :=
 (.seq (.reg false [] (.w 0 ⟨(some 4), none, .mv (.c (.str []))⟩
  .done) (some [0, 1]))
 (.seq (.reg false [] (.w 0 ⟨(some 5), none, .mv (.t 0)⟩
  (.w 1 ⟨(some 6), none, .mv (.t 1)⟩
  (.l 2 ⟨(some 7), none, .call 65 [(.t 5), (.t 6), (.c (.bool false))]⟩ []
  (.w 3 ⟨(some 4), none, .mv (.t 7)⟩
  .done) .stop))) (some [4]))
 .ret))
def r_fields_PutLittle : List RS := [.t 4]
theorem chk_fields_PutLittle : (chkC prog (max Tryd.f77.ntmps 2) s_fields_PutLittle (Tryd.f77.body.getD .skip) && chkRS prog r_fields_PutLittle Tryd.f77.results.toList) = true := by kernel_rfl
theorem mk_fields_PutLittle {G : Glob} {args : List SV} {H : List SO} {K Kp : SV → List SO → Prop} (hl : args.length = 2) (h : VFun prog G 8 s_fields_PutLittle r_fields_PutLittle args H K Kp) : Con prog G 77 args H K Kp := by
  subst_vars
  exact con_of_vc (fn := Tryd.f77) (sc := s_fields_PutLittle) (rs := r_fields_PutLittle) rfl Tryd.func77 rfl (by rw [hl]; exact chk_fields_PutLittle) (by rw [hl]; exact h)

/- headgate/crc.Right; loops: []; slots [(s, 0), (digest, 1), (s, 2), (digest, 3)] -/
def s_crc_Right : SCode :=
 (.seq (.reg false [] (.w 0 ⟨(some 4), none, .mv (.c (.bool false))⟩
  .done) (some [0, 1]))
 (.seq (.reg false [] (.w 0 ⟨(some 5), none, .mv (.t 1)⟩
  (.w 1 ⟨(some 6), none, .mv (.t 0)⟩
  (.l 2 ⟨(some 7), none, .call 64 [(.t 6)]⟩ []
  (.w 3 ⟨(some 8), none, .bin .eql .s (.t 5) (.t 7)⟩
  (.w 4 ⟨(some 4), none, .mv (.t 8)⟩
  .done)) .stop))) (some [4]))
 .ret))
def r_crc_Right : List RS := [.t 4]
theorem chk_crc_Right : (chkC prog (max Tryd.f56.ntmps 2) s_crc_Right (Tryd.f56.body.getD .skip) && chkRS prog r_crc_Right Tryd.f56.results.toList) = true := by kernel_rfl
theorem mk_crc_Right {G : Glob} {args : List SV} {H : List SO} {K Kp : SV → List SO → Prop} (hl : args.length = 2) (h : VFun prog G 9 s_crc_Right r_crc_Right args H K Kp) : Con prog G 56 args H K Kp := by
  subst_vars
  exact con_of_vc (fn := Tryd.f56) (sc := s_crc_Right) (rs := r_crc_Right) rfl Tryd.func56 rfl (by rw [hl]; exact chk_crc_Right) (by rw [hl]; exact h)

/- headgate/crc.Digest; loops: []; slots [(s, 0), (s, 1)] -/
def s_crc_Digest : SCode :=
 (.seq (.reg false [] (.w 0 ⟨(some 2), none, .mv (.c (.str []))⟩
  .done) (some [0]))
 (.seq (.reg false [] (.w 0 ⟨(some 3), none, .mv (.t 0)⟩
  (.l 1 ⟨(some 4), none, .call 78 [(.t 3)]⟩ []
  (.w 2 ⟨(some 5), none, .conv .u64 (.t 4)⟩
  (.l 3 ⟨(some 6), none, .call 77 [(.t 5), (.c (.int .i64 4))]⟩ []
  (.w 4 ⟨(some 2), none, .mv (.t 6)⟩
  .done) .stop)) .stop)) (some [2]))
 .ret))
def r_crc_Digest : List RS := [.t 2]
theorem chk_crc_Digest : (chkC prog (max Tryd.f64.ntmps 1) s_crc_Digest (Tryd.f64.body.getD .skip) && chkRS prog r_crc_Digest Tryd.f64.results.toList) = true := by kernel_rfl
theorem mk_crc_Digest {G : Glob} {args : List SV} {H : List SO} {K Kp : SV → List SO → Prop} (hl : args.length = 1) (h : VFun prog G 7 s_crc_Digest r_crc_Digest args H K Kp) : Con prog G 64 args H K Kp := by
  subst_vars
  exact con_of_vc (fn := Tryd.f64) (sc := s_crc_Digest) (rs := r_crc_Digest) rfl Tryd.func64 rfl (by rw [hl]; exact chk_crc_Digest) (by rw [hl]; exact h)

/- headgate/crc.Sum; loops: []; slots [(s, 0), (s, 1)] -/
def s_crc_Sum : SCode :=
 (.seq (.reg false [] (.w 0 ⟨(some 2), none, .mv (.c (.int .u32 0))⟩
  .done) (some [0]))
 (.seq (.reg false [] (.w 0 ⟨(some 3), none, .mv (.t 0)⟩
  (.l 1 ⟨(some 4), none, .call 83 [(.c (.int .u32 0)), (.t 3)]⟩ []
  (.w 2 ⟨(some 2), none, .mv (.t 4)⟩
  .done) .stop)) (some [2]))
 .ret))
def r_crc_Sum : List RS := [.t 2]
theorem chk_crc_Sum : (chkC prog (max Tryd.f78.ntmps 1) s_crc_Sum (Tryd.f78.body.getD .skip) && chkRS prog r_crc_Sum Tryd.f78.results.toList) = true := by kernel_rfl
theorem mk_crc_Sum {G : Glob} {args : List SV} {H : List SO} {K Kp : SV → List SO → Prop} (hl : args.length = 1) (h : VFun prog G 5 s_crc_Sum r_crc_Sum args H K Kp) : Con prog G 78 args H K Kp := by
  subst_vars
  exact con_of_vc (fn := Tryd.f78) (sc := s_crc_Sum) (rs := r_crc_Sum) rfl Tryd.func78 rfl (by rw [hl]; exact chk_crc_Sum) (by rw [hl]; exact h)

/- headgate/crc.More; loops: [[0, 1, 9, 10]]; slots [(w, 0), (s, 1), (w, 2), (s, 3), (i, 5)] -/
def s_crc_More : SCode :=
 (.seq (.reg false [] (.w 0 ⟨(some 4), none, .mv (.c (.int .u32 0))⟩
  .done) (some [0, 1]))
 (.seq (.reg false [] (.w 0 ⟨(some 6), none, .mv (.t 0)⟩
  (.w 1 ⟨(some 7), none, .un .xor (.t 6)⟩
  (.w 2 ⟨(some 0), none, .mv (.t 7)⟩
  .done))) (some [0, 1]))
 (.seq (.seq (.reg false [] (.w 0 ⟨(some 8), none, .mv (.t 1)⟩
  (.w 1 ⟨(some 9), none, .len false (.t 8)⟩
  (.w 2 ⟨(some 10), none, .mv (.c (.int .i64 0))⟩
  .done))) (some [0, 1, 9, 10]))
 (.block 0 (.loop (.seq (.reg false [] (.w 0 ⟨(some 11), none, .bin .lss .i (.t 10) (.t 9)⟩
  .done) (some [0, 1, 9, 10, 11]))
 (.seq (.cond (.t 11) .skip
 (.exit 0))
 (.seq (.block 1 (.seq (.reg false [] (.w 0 ⟨(some 12), none, .mv (.t 10)⟩
  (.w 1 ⟨(some 5), none, .mv (.t 12)⟩
  .done)) (some [0, 1, 5, 9, 10]))
 (.seq (.reg false [] (.w 0 ⟨(some 13), none, .mv (.t 0)⟩
  (.w 1 ⟨(some 14), none, .mv (.t 1)⟩
  (.w 2 ⟨(some 15), none, .mv (.t 5)⟩
  (.w 3 ⟨(some 16), none, .idx (.t 14) (.t 15)⟩
  (.w 4 ⟨(some 17), none, .conv .u32 (.t 16)⟩
  (.w 5 ⟨(some 18), none, .bin .xor .i (.t 13) (.t 17)⟩
  (.w 6 ⟨(some 0), none, .mv (.t 18)⟩
  .done))))))) (some [0, 1, 9, 10]))
 (.seq (.reg false [] (.w 0 ⟨(some 19), none, .mv (.t 0)⟩
  (.w 1 ⟨(some 20), none, .bin .shr .i (.t 19) (.c (.int .u64 4))⟩
  (.w 2 ⟨(some 21), none, .mv (.t 0)⟩
  (.w 3 ⟨(some 22), none, .bin .and .i (.t 21) (.c (.int .u32 15))⟩
  (.w 4 ⟨(some 23), none, .iaa (.c (.gp 1 0)) (.t 22) 1 16⟩
  (.rd 5 ⟨(some 24), none, .ld (.t 23) 1 false⟩
  (.w 6 ⟨(some 25), none, .bin .xor .i (.t 20) (.t 24)⟩
  (.w 7 ⟨(some 0), none, .mv (.t 25)⟩
  .done)))))))) (some [0, 1, 9, 10]))
 (.reg false [] (.w 0 ⟨(some 26), none, .mv (.t 0)⟩
  (.w 1 ⟨(some 27), none, .bin .shr .i (.t 26) (.c (.int .u64 4))⟩
  (.w 2 ⟨(some 28), none, .mv (.t 0)⟩
  (.w 3 ⟨(some 29), none, .bin .and .i (.t 28) (.c (.int .u32 15))⟩
  (.w 4 ⟨(some 30), none, .iaa (.c (.gp 1 0)) (.t 29) 1 16⟩
  (.rd 5 ⟨(some 31), none, .ld (.t 30) 1 false⟩
  (.w 6 ⟨(some 32), none, .bin .xor .i (.t 27) (.t 31)⟩
  (.w 7 ⟨(some 0), none, .mv (.t 32)⟩
  .done)))))))) (some [0, 1, 9, 10]))))))
 (.reg false [] (.w 0 ⟨(some 33), none, .bin .add .i (.t 10) (.c (.int .i64 1))⟩
  (.w 1 ⟨(some 10), none, .mv (.t 33)⟩
  .done)) (some [0, 1, 9, 10]))))))))
 (.seq (.reg false [] (.w 0 ⟨(some 34), none, .mv (.t 0)⟩
  (.w 1 ⟨(some 35), none, .un .xor (.t 34)⟩
  (.w 2 ⟨(some 4), none, .mv (.t 35)⟩
  .done))) (some [4]))
 .ret))))
def r_crc_More : List RS := [.t 4]
theorem chk_crc_More : (chkC prog (max Tryd.f83.ntmps 2) s_crc_More (Tryd.f83.body.getD .skip) && chkRS prog r_crc_More Tryd.f83.results.toList) = true := by kernel_rfl
theorem mk_crc_More {G : Glob} {args : List SV} {H : List SO} {K Kp : SV → List SO → Prop} (hl : args.length = 2) (h : VFun prog G 36 s_crc_More r_crc_More args H K Kp) : Con prog G 83 args H K Kp := by
  subst_vars
  exact con_of_vc (fn := Tryd.f83) (sc := s_crc_More) (rs := r_crc_More) rfl Tryd.func83 rfl (by rw [hl]; exact chk_crc_More) (by rw [hl]; exact h)

end Go.V
