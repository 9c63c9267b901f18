/-
  The run of the law PathNone over the plain view of memory: it answers true. No condition.
-/
import Derived.Test.YtkepkcddlphojaaFlatT
namespace Go.Flat
open Go.Proofs
set_option maxRecDepth 100000

theorem pathNone_run (n m : Int) (a0 a1 a2 a3 a4 a5 a6 a7 : Int) : evFn tt tb noFns (fun _ _ => []) 100 3 7 [.v (.int .i64 n), .v (.int .u64 m), .agg [.v (.int .u8 a0), .v (.int .u8 a1), .v (.int .u8 a2), .v (.int .u8 a3), .v (.int .u8 a4), .v (.int .u8 a5), .v (.int .u8 a6), .v (.int .u8 a7)]] [] = some (.v (.bool true), []) := by kernel_rfl
theorem pathNone_out {n m : Int} {zs : List Int} (h : zs.length = 8) : evFn tt tb noFns (fun _ _ => []) 100 3 7 [.v (.int .i64 n), .v (.int .u64 m), .agg (zs.map fun z => A.v (.int .u8 z))] [] = some (.v (.bool true), []) := by
  obtain ⟨a0, a1, a2, a3, a4, a5, a6, a7, rfl⟩ : ∃ a0 a1 a2 a3 a4 a5 a6 a7, zs = [a0, a1, a2, a3, a4, a5, a6, a7] := by
    match zs, h with
    | [a0, a1, a2, a3, a4, a5, a6, a7], _ => exact ⟨_, _, _, _, _, _, _, _, rfl⟩
  exact pathNone_run n m a0 a1 a2 a3 a4 a5 a6 a7
end Go.Flat
