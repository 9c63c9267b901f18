/-
  The run of the law VintTakes over the plain view of memory: it answers true, for all bytes. No condition.
-/
import Derived.Test.YtkepkcddlphojaaTakeRun
namespace Go.Flat
open Go.Proofs
set_option maxRecDepth 100000
set_option maxHeartbeats 2000000

theorem vint_awake : evFn tt tb noFns KT 1000 9 21 [] [] = some (.v (.bool true), []) := by kernel_rfl

theorem vintTakes_run : ∀ (xs : List Nat), (∀ n ∈ xs, n < 256) → evFn tt tb noFns KT 1000 10 5 [.lst xs.length (xs.map a8)] [] = some (.v (.bool true), [])
  | [], _ => by
    rw [call5]
    simp [Try.f5, vint_awake, take_none, rtake_none]
  | x :: r, hx => by
    have h1 := hx x List.mem_cons_self
    have hr : ∀ n ∈ r, n < 256 := fun n hn => hx n (List.mem_cons_of_mem _ hn)
    obtain ⟨q, hq, hq2, -, -⟩ := size_of h1
    have hz := rtake_sizes x r q h1 hq hq2 noFns 8 hr
    rw [call5]
    by_cases hs : r.length + 1 < 2 ^ q
    · have ht := take_short noFns 8 x r h1 (by rw [hq2]; exact hs)
      rw [if_pos hs] at hz
      simp [Try.f5, vint_awake, ht, hz]
    · have ht := take_ok noFns 8 x r hr h1 (by rw [hq2]; exact hs)
      rw [if_neg hs] at hz
      rw [hq2] at ht
      have hk1 : 1 ≤ 2 ^ q := Nat.one_le_two_pow
      have hpos : (0 : Int) < 2 ^ q := by
        have : ((2 : Int) ^ q) = ((2 ^ q : Nat) : Int) := by simp
        omega
      simp [Try.f5, vint_awake, ht, hz, hpos]
theorem u8_nat {zs : List Int} (h : ∀ n ∈ zs, (Lit.int .u8 n).wf = true) : ∃ xs : List Nat, zs.length = xs.length ∧ (zs.map fun n => A.v (.int .u8 n)) = xs.map a8 ∧ ∀ n ∈ xs, n < 256 := by
  have hb : ∀ n ∈ zs, 0 ≤ n ∧ n < 256 := fun n hn => by
    have := h n hn
    simp [Lit.wf, IntKind.min, IntKind.max, IntKind.signed, IntKind.bits] at this
    omega
  refine ⟨zs.map Int.toNat, by simp, ?_, fun n hn => ?_⟩
  · rw [List.map_map]
    refine List.map_congr_left fun n hn => ?_
    have := hb n hn
    simp only [a8, Function.comp]
    congr 2
    omega
  · obtain ⟨z, hz, rfl⟩ := List.mem_map.1 hn
    have := hb z hz
    omega
theorem vintTakes_out {zs : List Int} (h : ∀ n ∈ zs, (Lit.int .u8 n).wf = true) : evFn tt tb noFns KT 1000 10 5 [.lst zs.length (zs.map fun n => A.v (.int .u8 n))] [] = some (.v (.bool true), []) := by
  obtain ⟨xs, hl, hm, hb⟩ := u8_nat h
  rw [hl, hm]
  exact vintTakes_run xs hb
end Go.Flat
