/- Symbolic code. -/
import Derived.Test.YtfdjmooifnmanaaDoorK
namespace Go.V
open Go.Proofs
-- no function p:headgateref05
-- no function p:headgateref06
/- headgate/headgatekeep.Mod; loops: []; slots [(k, 0), (n, 1), (k, 2), (n, 3)] -/
def s_headgatekeep_Mod : SCode :=
 (.seq (.reg false [] (.w 0 ⟨(some 4), none, .mv (.c (.int .i64 0))⟩
  .done) (some [0, 1]))
 (.seq (.seq (.reg false [] (.w 0 ⟨(some 5), none, .mv (.t 1)⟩
  (.w 1 ⟨(some 6), none, .bin .lss .i (.t 5) (.c (.int .i64 1))⟩
  .done)) (some [0, 1, 6]))
 (.cond (.t 6) (.seq (.reg false [] (.w 0 ⟨(some 4), none, .mv (.c (.int .i64 0))⟩
  .done) (some [4]))
 .ret)
 .skip))
 (.seq (.reg false [] (.w 0 ⟨(some 7), none, .mv (.t 0)⟩
  (.w 1 ⟨(some 8), none, .mv (.t 1)⟩
  (.w 2 ⟨(some 9), none, .bin .rem .i (.t 7) (.t 8)⟩
  (.w 3 ⟨(some 10), none, .mv (.t 1)⟩
  (.w 4 ⟨(some 11), none, .bin .add .i (.t 9) (.t 10)⟩
  (.w 5 ⟨(some 12), none, .mv (.t 1)⟩
  (.w 6 ⟨(some 13), none, .bin .rem .i (.t 11) (.t 12)⟩
  (.w 7 ⟨(some 4), none, .mv (.t 13)⟩
  .done)))))))) (some [4]))
 .ret)))
def r_headgatekeep_Mod : List RS := [.t 4]
theorem chk_headgatekeep_Mod : (chkC prog (max Tryd.f7.ntmps 2) s_headgatekeep_Mod (Tryd.f7.body.getD .skip) && chkRS prog r_headgatekeep_Mod Tryd.f7.results.toList) = true := by kernel_rfl
theorem mk_headgatekeep_Mod {G : Glob} {args : List SV} {H : List SO} {K Kp : SV → List SO → Prop} (hl : args.length = 2) (h : VFun prog G 14 s_headgatekeep_Mod r_headgatekeep_Mod args H K Kp) : Con prog G 7 args H K Kp := by
  subst_vars
  exact con_of_vc (fn := Tryd.f7) (sc := s_headgatekeep_Mod) (rs := r_headgatekeep_Mod) rfl Tryd.func7 rfl (by rw [hl]; exact chk_headgatekeep_Mod) (by rw [hl]; exact h)

/- headgate/headgatekeep.Zeros; loops: []; slots [(n, 0), (n, 1)] -/
def s_headgatekeep_Zeros : SCode :=
 (.seq (.reg false [] (.w 0 ⟨(some 2), none, .mv (.c (.str []))⟩
  .done) (some [0]))
 (.seq (.reg false [] (.w 0 ⟨(some 3), none, .mv (.t 0)⟩
  (.l 1 ⟨(some 4), none, .mks (byteC ty_uint8) (byteC ty_uint8).dflt 1 (.t 3)⟩ []
  (.rd 2 ⟨(some 5), none, .b2s (.t 4)⟩
  (.w 3 ⟨(some 2), none, .mv (.t 5)⟩
  .done)) .stop)) (some [2]))
 .ret))
def r_headgatekeep_Zeros : List RS := [.t 2]
theorem chk_headgatekeep_Zeros : (chkC prog (max Tryd.f17.ntmps 1) s_headgatekeep_Zeros (Tryd.f17.body.getD .skip) && chkRS prog r_headgatekeep_Zeros Tryd.f17.results.toList) = true := by kernel_rfl
theorem mk_headgatekeep_Zeros {G : Glob} {args : List SV} {H : List SO} {K Kp : SV → List SO → Prop} (hl : args.length = 1) (h : VFun prog G 6 s_headgatekeep_Zeros r_headgatekeep_Zeros args H K Kp) : Con prog G 17 args H K Kp := by
  subst_vars
  exact con_of_vc (fn := Tryd.f17) (sc := s_headgatekeep_Zeros) (rs := r_headgatekeep_Zeros) rfl Tryd.func17 rfl (by rw [hl]; exact chk_headgatekeep_Zeros) (by rw [hl]; exact h)

/- headgate/headgatekeep.Texts; loops: [[0, 1, 5]]; slots [(a, 0), (b, 1), (a, 2), (b, 3), (i, 5)] -/
def s_headgatekeep_Texts : SCode :=
 (.seq (.reg false [] (.w 0 ⟨(some 4), none, .mv (.c (.bool false))⟩
  .done) (some [0, 1]))
 (.seq (.seq (.reg false [] (.w 0 ⟨(some 6), none, .mv (.t 0)⟩
  (.w 1 ⟨(some 7), none, .len true (.t 6)⟩
  (.w 2 ⟨(some 8), none, .mv (.t 1)⟩
  (.w 3 ⟨(some 9), none, .len true (.t 8)⟩
  (.w 4 ⟨(some 10), none, .bin .neq .i (.t 7) (.t 9)⟩
  .done))))) (some [0, 1, 10]))
 (.cond (.t 10) (.seq (.reg false [] (.w 0 ⟨(some 4), none, .mv (.c (.bool false))⟩
  .done) (some [4]))
 .ret)
 .skip))
 (.seq (.seq (.reg false [] (.w 0 ⟨(some 5), none, .mv (.c (.int .i64 0))⟩
  .done) (some [0, 1, 5]))
 (.block 0 (.loop (.seq (.seq (.reg false [] (.w 0 ⟨(some 11), none, .mv (.t 5)⟩
  (.w 1 ⟨(some 12), none, .mv (.t 0)⟩
  (.w 2 ⟨(some 13), none, .len true (.t 12)⟩
  (.w 3 ⟨(some 14), none, .bin .lss .i (.t 11) (.t 13)⟩
  .done)))) (some [0, 1, 5, 14]))
 (.cond (.t 14) .skip
 (.exit 0)))
 (.seq (.block 1 (.seq (.reg true [[], [], [0, 1], [0, 1, 2], [], [], [4, 5], [4, 5, 6], [0, 1, 2, 3, 4, 5, 6, 7]] (.w 0 ⟨(some 17), none, .mv (.t 0)⟩
  (.w 1 ⟨(some 18), none, .mv (.t 5)⟩
  (.w 2 ⟨(some 19), none, .ia (.t 17) (.t 18) 1⟩
  (.rd 3 ⟨(some 20), none, .ld (.t 19) 1 false⟩
  (.w 4 ⟨(some 21), none, .mv (.t 1)⟩
  (.w 5 ⟨(some 22), none, .mv (.t 5)⟩
  (.w 6 ⟨(some 23), none, .ia (.t 21) (.t 22) 1⟩
  (.rd 7 ⟨(some 24), none, .ld (.t 23) 1 false⟩
  (.w 8 ⟨(some 25), none, .bin .neq .s (.t 20) (.t 24)⟩
  .done))))))))) (some [0, 1, 5, 25]))
 (.cond (.t 25) (.seq (.reg false [] (.w 0 ⟨(some 4), none, .mv (.c (.bool false))⟩
  .done) (some [4]))
 .ret)
 .skip)))
 (.reg false [] (.w 0 ⟨(some 15), none, .mv (.t 5)⟩
  (.w 1 ⟨(some 16), none, .bin .add .i (.t 15) (.c (.int .i64 1))⟩
  (.w 2 ⟨(some 5), none, .mv (.t 16)⟩
  .done))) (some [0, 1, 5])))))))
 (.seq (.reg false [] (.w 0 ⟨(some 4), none, .mv (.c (.bool true))⟩
  .done) (some [4]))
 .ret))))
def r_headgatekeep_Texts : List RS := [.t 4]
theorem chk_headgatekeep_Texts : (chkC prog (max Tryd.f20.ntmps 2) s_headgatekeep_Texts (Tryd.f20.body.getD .skip) && chkRS prog r_headgatekeep_Texts Tryd.f20.results.toList) = true := by kernel_rfl
theorem mk_headgatekeep_Texts {G : Glob} {args : List SV} {H : List SO} {K Kp : SV → List SO → Prop} (hl : args.length = 2) (h : VFun prog G 26 s_headgatekeep_Texts r_headgatekeep_Texts args H K Kp) : Con prog G 20 args H K Kp := by
  subst_vars
  exact con_of_vc (fn := Tryd.f20) (sc := s_headgatekeep_Texts) (rs := r_headgatekeep_Texts) rfl Tryd.func20 rfl (by rw [hl]; exact chk_headgatekeep_Texts) (by rw [hl]; exact h)

end Go.V
