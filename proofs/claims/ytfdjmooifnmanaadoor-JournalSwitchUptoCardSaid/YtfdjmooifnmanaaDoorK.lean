/- What lies in slices: the elements' codecs. -/
import Derived.Test.YtfdjmooifnmanaaDoorT
namespace Go.V

abbrev heldC : Codec where
  E := Int × Bytes
  dflt := (0, [])
  ty := ty_held
  k := 2
  enc x := [.int .i64 x.1, .str x.2]
  dec l := match l with | [.int .i64 n, .str s] => some (n, s) | _ => none
  ok l e h := by split at h <;> simp_all; subst h; simp
  len _ := rfl
  plain e s h := by simp at h; rcases h with rfl | rfl <;> rfl

/-- texts that nobody writes -/
def roStrs (l : List Bytes) : SV := .ro Bytes [] 1 (strC ty_string).enc l
def roInts (l : List Int) : SV := .ro Int 0 1 (intC .i64 ty_int).enc l

abbrev stateC : Codec where
  E := Bytes × List Bytes
  dflt := ([], [])
  ty := ty_refState
  k := 2
  enc x := [.str x.1, roStrs x.2]
  dec _ := none
  ok _ _ h := by cases h
  len _ := rfl
  plain e s h := by simp at h; rcases h with rfl | rfl <;> rfl

structure StepM where
  kind : Int
  text : Bytes
  n : Int
  keep : List Int
abbrev stepC : Codec where
  E := StepM
  dflt := ⟨0, [], 0, []⟩
  ty := ty_Step
  k := 4
  enc x := [.int .i64 x.kind, .str x.text, .int .i64 x.n, roInts x.keep]
  dec _ := none
  ok _ _ h := by cases h
  len _ := rfl
  plain e s h := by simp at h; rcases h with rfl | rfl | rfl | rfl <;> rfl
end Go.V
