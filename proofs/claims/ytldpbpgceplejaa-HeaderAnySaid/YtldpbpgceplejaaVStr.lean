/-
  Bytes as a string, over the plain view of memory. No condition.
-/
import Derived.Test.YtldpbpgceplejaaVTake
namespace Go.Flat
set_option linter.unusedSimpArgs false
set_option linter.unusedVariables false
open Go.Proofs
set_option maxRecDepth 100000

def strOf (xs : List Nat) : ByteArray := ⟨(xs.map fun n => UInt8.ofNat n).toArray⟩

theorem str_all (xs : List Nat) : (xs.map a8).all isByte = true := by
  rw [List.all_map, List.all_eq_true]
  intro x _
  rfl
theorem str_bytes (xs : List Nat) (hx : ∀ n ∈ xs, n < 256) : (xs.map a8).map byteVal = xs.map fun n => UInt8.ofNat n := by
  rw [List.map_map]
  refine List.map_congr_left fun n hn => ?_
  simp [a8, byteVal]

theorem conv_lst (xs : List Nat) (hx : ∀ n ∈ xs, n < 256) (h : List Ob) : evConvert tt 23 9 (.lst xs.length (xs.map a8)) h = some (.v (.string (strOf xs)), h) := by
  simp only [evConvert, tt23, tt9, tt5, sliceCells, List.length_map, Nat.mul_one, if_true, Option.bind_some, str_all, str_bytes xs hx]
  rfl

theorem conv_row (xs : List Nat) (hx : ∀ n ∈ xs, n < 256) (i : Nat) (h : List Ob) (hi : h[i]? = some (.row (xs.map a8))) : evConvert tt 23 9 (.sl i 0 xs.length 1) h = some (.v (.string (strOf xs)), h) := by
  simp only [evConvert, tt23, tt9, tt5, sliceCells, getCells, hi, Option.bind_some, Ob.list?, List.length_map, Nat.mul_one, Nat.zero_add, Nat.le_refl, if_true, List.drop_zero, Option.map_some]
  rw [List.take_of_length_le (by simp)]
  simp only [str_all, if_true, str_bytes xs hx]
  rfl

theorem str_inj {xs ys : List Nat} (hx : ∀ n ∈ xs, n < 256) (hy : ∀ n ∈ ys, n < 256) (h : strOf xs = strOf ys) : xs = ys := by
  have h1 : (xs.map fun n => UInt8.ofNat n) = ys.map fun n => UInt8.ofNat n := by
    have := congrArg (fun b : ByteArray => b.data.toList) h
    simpa [strOf] using this
  have h2 := congrArg (List.map UInt8.toNat) h1
  rw [List.map_map, List.map_map] at h2
  have e : ∀ zs : List Nat, (∀ n ∈ zs, n < 256) → zs.map (UInt8.toNat ∘ fun n => UInt8.ofNat n) = zs := fun zs hz => by
    conv => rhs; rw [← List.map_id zs]
    refine List.map_congr_left fun n hn => ?_
    have := hz n hn
    simp [Nat.mod_eq_of_lt, this]
  rw [e xs hx, e ys hy] at h2
  exact h2
theorem str_app (xs ys : List Nat) : strOf xs ++ strOf ys = strOf (xs ++ ys) := by
  apply ByteArray.ext
  simp [strOf]
end Go.Flat
