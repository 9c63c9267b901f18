/-
  The run of the law VintNone over the plain view of memory: it answers true. No condition.
-/
import Derived.Test.YtkepkcddlphojaaVintTakesRun
namespace Go.Flat
open Go.Proofs
set_option maxRecDepth 100000
set_option maxHeartbeats 4000000

theorem wrap_nonneg (x : Int) : ¬ IntKind.u64.wrap x < 0 := by
  unfold IntKind.wrap
  simp [IntKind.signed, IntKind.bits]
  omega

theorem vintNone_run (n k : Int) (m : Nat) (ax : List A) : evFn tt tb noFns KT 1000 10 11 [.v (.int .u64 n), .lst m ax, .v (.int .i64 k)] [] = some (.v (.bool true), []) := by
  rw [call11]
  have w0 : IntKind.i64.wrap 0 = 0 := by decide
  simp [Try.f11, w0, vint_awake, call30, Try.f30, call31, Try.f31, call32, Try.f32, call33, Try.f33, call51, Try.f51, call52, Try.f52, call53, Try.f53, call54, Try.f54, call55, Try.f55, call56, Try.f56, call57, Try.f57, call58, Try.f58, call59, Try.f59, call60, Try.f60, wrap_nonneg]
end Go.Flat
