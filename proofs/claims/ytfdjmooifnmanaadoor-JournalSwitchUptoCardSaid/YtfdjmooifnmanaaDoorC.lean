/- Frames are read under a deferred closure: what it does where nothing went wrong. -/
import Derived.Test.YtfdjmooifnmanaaDoorB
import Derived.Test.YtfdjmooifnmanaaDoorVD
import Derived.Test.YtfdjmooifnmanaaDoorCF
import Derived.Recover
namespace Go.V
open Go.Proofs Go.RowKit

theorem idle_Get (vs : Array Value) (w : World) (h : vs.size = 4) : CallsD Tryd.prog 40 vs .returning w fun e u' w' => (∃ v, e = .returned v) ∧ u' = .returning ∧ w' = w := by
  obtain ⟨l⟩ := vs
  match l, h with
  | [a, b, c, d], _ =>
  refine (CallsD.mono (R := fun e u' w' => e = .returned (.tuple #[]) ∧ u' = .returning ∧ w' = w) ?_ fun e u' w' ⟨h1, h2, h3⟩ => ⟨⟨_, h1⟩, h2, h3⟩)
  refine callsD_of_wpS Tryd.func40 rfl fun c₀ cs hu => ?_
  apply wpS_seq
  apply wpS_region
  simp [wpOpsS, go_sem, recoverD, hu, Tryd.ntmps40, Exit.thenS]
  refine wpS_of_wp ?_
  go_wp2
  cases c₀
  simp_all [bodyPostS, results, Tryd.results40]
end Go.V
