/-
  Wide, of the program and of the reference, for whole numbers: the bytes are the same. No condition.
-/
import Derived.Test.YtkepkcddlphojaaVintBytesRun
namespace Go.Flat
set_option linter.unusedSimpArgs false
set_option linter.unusedVariables false
open Go.Proofs
set_option maxRecDepth 100000
set_option maxHeartbeats 4000000

def bytesOf (n k : Nat) : List Nat :=
  if k = 1 then [n]
  else if k = 2 then [n / 256 + 64, n % 256]
  else if k = 4 then [n / 16777216 + 128, n / 65536 % 256, n / 256 % 256, n % 256]
  else [n / 72057594037927936 + 192, n / 281474976710656 % 256, n / 1099511627776 % 256, n / 4294967296 % 256, n / 16777216 % 256, n / 65536 % 256, n / 256 % 256, n % 256]

theorem w8 (x : Int) : IntKind.u8.wrap x = x % 256 := by simp [IntKind.wrap, IntKind.signed, IntKind.bits]
theorem orTop : ∀ b : Fin 64, bits .or .u8 (b.val : Int) 0 = b.val ∧ bits .or .u8 (b.val : Int) 64 = b.val + 64 ∧ bits .or .u8 (b.val : Int) 128 = b.val + 128 ∧ bits .or .u8 (b.val : Int) 192 = b.val + 192 := by decide +kernel
theorem len_1 {n : Nat} (h : lenZ n ≤ 1) (h0 : lenZ n ≠ 0) : n < 64 := by unfold lenZ at h h0; omega
theorem len_2 {n : Nat} (h : lenZ n ≤ 2) (h0 : lenZ n ≠ 0) : n < 16384 := by unfold lenZ at h h0; omega
theorem len_4 {n : Nat} (h : lenZ n ≤ 4) (h0 : lenZ n ≠ 0) : n < 1073741824 := by unfold lenZ at h h0; omega
theorem len_8 {n : Nat} (h0 : lenZ n ≠ 0) : n < 4611686018427387904 := by unfold lenZ at h0; omega
theorem bytes_len (n : Nat) {k : Nat} (hk : k = 1 ∨ k = 2 ∨ k = 4 ∨ k = 8) : (bytesOf n k).length = k := by
  rcases hk with rfl | rfl | rfl | rfl <;> rfl
theorem td {n m : Nat} (h : n < 18446744073709551616) (hm : n / 256 = m) : IntKind.u64.wrap (Int.tdiv (n : Int) 256) = (m : Int) := by
  rw [Int.tdiv_eq_ediv_of_nonneg (by omega), wrapu64 (by omega) (by omega)]; omega
theorem tm {n m : Nat} (hm : n % 256 = m) : IntKind.u8.wrap (Int.tmod (n : Int) 256) = (m : Int) := by
  rw [Int.tmod_eq_emod_of_nonneg (by omega), w8]; omega
theorem fd (j : Nat) {n m : Nat} (c : Int) (hc : c = j) (hm : n / j % 256 = m) : IntKind.u8.wrap (Int.fdiv (n : Int) c) = (m : Int) := by
  rw [hc, Int.fdiv_eq_ediv_of_nonneg _ (by omega), w8, ← hm]; omega

theorem w26_1 (B : Fns) (d : Nat) (xs : List Nat) (n : Nat) (hl : lenZ n ≤ 1) (h0 : lenZ n ≠ 0) (hm : xs.length ≤ 1000) :
    evFn tt tb B KT 1000 (d + 2) 26 [.lst xs.length (xs.map a8), .v (.int .u64 n), .v (.int .i64 1)] [] = some (.tup [.sl 0 0 (xs.length + 1) 1, .v (.int .i64 0)], [.row ((xs ++ bytesOf n 1).map a8)]) := by
  have hb := len_1 hl h0
  have ht : n / 1 < 64 := by omega
  have hw : IntKind.u8.wrap 0 = 0 := by decide
  have hor := (orTop ⟨n / 1, ht⟩).1
  have hor : bits .or .u8 (n : Int) 0 = n := (orTop ⟨n, hb⟩).1
  have := wide26_1 B d xs n (n : Int) ((n : Nat) : Int) hl h0 hm (by rw [w8]; omega) (by rw [hw]; exact hor)
  rw [this]
  simp [bytesOf, a8]
theorem w27_1 (B : Fns) (d : Nat) (n : Nat) (hl : lenZ n ≤ 1) (h0 : lenZ n ≠ 0) :
    evFn tt tb B KT 1000 (d + 2) 27 [.v (.int .u64 n), .v (.int .i64 1)] [] = some (.sl 0 0 1 1, [.row ((bytesOf n 1).map a8)]) := by
  have hb := len_1 hl h0
  have hw : IntKind.u8.wrap 0 = 0 := by decide
  have := wide27_1 B d n ((n / 256 : Nat) : Int) (n : Int) ((n : Nat) : Int) hl h0 (td (by omega) (by omega)) (tm (by omega)) (by rw [hw, w8]; omega)
  rw [this]
  simp [bytesOf, a8]
theorem w26_2 (B : Fns) (d : Nat) (xs : List Nat) (n : Nat) (hl : lenZ n ≤ 2) (h0 : lenZ n ≠ 0) (hm : xs.length ≤ 1000) :
    evFn tt tb B KT 1000 (d + 2) 26 [.lst xs.length (xs.map a8), .v (.int .u64 n), .v (.int .i64 2)] [] = some (.tup [.sl 0 0 (xs.length + 2) 1, .v (.int .i64 0)], [.row ((xs ++ bytesOf n 2).map a8)]) := by
  have hb := len_2 hl h0
  have ht : n / 256 < 64 := by omega
  have hw : IntKind.u8.wrap 64 = 64 := by decide
  have hor := (orTop ⟨n / 256, ht⟩).2.1
  have := wide26_2 B d xs n ((n % 256 : Nat) : Int) ((n / 256 : Nat) : Int) ((n / 256 + 64 : Nat) : Int) hl h0 hm (by rw [w8]; omega) (fd 256 _ rfl (by omega)) (by rw [hw]; exact hor)
  rw [this]
  simp [bytesOf, a8]
theorem w27_2 (B : Fns) (d : Nat) (n : Nat) (hl : lenZ n ≤ 2) (h0 : lenZ n ≠ 0) :
    evFn tt tb B KT 1000 (d + 2) 27 [.v (.int .u64 n), .v (.int .i64 2)] [] = some (.sl 0 0 2 1, [.row ((bytesOf n 2).map a8)]) := by
  have hb := len_2 hl h0
  have hw : IntKind.u8.wrap 64 = 64 := by decide
  have := wide27_2 B d n ((n / 256 : Nat) : Int) ((n / 65536 : Nat) : Int) ((n % 256 : Nat) : Int) ((n / 256 : Nat) : Int) ((n / 256 + 64 : Nat) : Int) hl h0 (td (by omega) (by omega)) (td (by omega) (by omega)) (tm (by omega)) (tm (by omega)) (by rw [hw, w8]; omega)
  rw [this]
  simp [bytesOf, a8]
theorem w26_4 (B : Fns) (d : Nat) (xs : List Nat) (n : Nat) (hl : lenZ n ≤ 4) (h0 : lenZ n ≠ 0) (hm : xs.length ≤ 1000) :
    evFn tt tb B KT 1000 (d + 2) 26 [.lst xs.length (xs.map a8), .v (.int .u64 n), .v (.int .i64 4)] [] = some (.tup [.sl 0 0 (xs.length + 4) 1, .v (.int .i64 0)], [.row ((xs ++ bytesOf n 4).map a8)]) := by
  have hb := len_4 hl h0
  have ht : n / 16777216 < 64 := by omega
  have hw : IntKind.u8.wrap 128 = 128 := by decide
  have hor := (orTop ⟨n / 16777216, ht⟩).2.2.1
  have := wide26_4 B d xs n ((n % 256 : Nat) : Int) ((n / 256 % 256 : Nat) : Int) ((n / 65536 % 256 : Nat) : Int) ((n / 16777216 : Nat) : Int) ((n / 16777216 + 128 : Nat) : Int) hl h0 hm (by rw [w8]; omega) (fd 256 _ rfl rfl) (fd 65536 _ rfl rfl) (fd 16777216 _ rfl (by omega)) (by rw [hw]; exact hor)
  rw [this]
  simp [bytesOf, a8]
theorem w27_4 (B : Fns) (d : Nat) (n : Nat) (hl : lenZ n ≤ 4) (h0 : lenZ n ≠ 0) :
    evFn tt tb B KT 1000 (d + 2) 27 [.v (.int .u64 n), .v (.int .i64 4)] [] = some (.sl 0 0 4 1, [.row ((bytesOf n 4).map a8)]) := by
  have hb := len_4 hl h0
  have hw : IntKind.u8.wrap 128 = 128 := by decide
  have := wide27_4 B d n ((n / 256 : Nat) : Int) ((n / 65536 : Nat) : Int) ((n / 16777216 : Nat) : Int) ((n / 4294967296 : Nat) : Int) ((n % 256 : Nat) : Int) ((n / 256 % 256 : Nat) : Int) ((n / 65536 % 256 : Nat) : Int) ((n / 16777216 : Nat) : Int) ((n / 16777216 + 128 : Nat) : Int) hl h0 (td (by omega) (by omega)) (td (by omega) (by omega)) (td (by omega) (by omega)) (td (by omega) (by omega)) (tm (by omega)) (tm (by omega)) (tm (by omega)) (tm (by omega)) (by rw [hw, w8]; omega)
  rw [this]
  simp [bytesOf, a8]
theorem w26_8 (B : Fns) (d : Nat) (xs : List Nat) (n : Nat) (hl : lenZ n ≤ 8) (h0 : lenZ n ≠ 0) (hm : xs.length ≤ 1000) :
    evFn tt tb B KT 1000 (d + 2) 26 [.lst xs.length (xs.map a8), .v (.int .u64 n), .v (.int .i64 8)] [] = some (.tup [.sl 0 0 (xs.length + 8) 1, .v (.int .i64 0)], [.row ((xs ++ bytesOf n 8).map a8)]) := by
  have hb := len_8 h0
  have ht : n / 72057594037927936 < 64 := by omega
  have hw : IntKind.u8.wrap 192 = 192 := by decide
  have hor := (orTop ⟨n / 72057594037927936, ht⟩).2.2.2
  have := wide26_8 B d xs n ((n % 256 : Nat) : Int) ((n / 256 % 256 : Nat) : Int) ((n / 65536 % 256 : Nat) : Int) ((n / 16777216 % 256 : Nat) : Int) ((n / 4294967296 % 256 : Nat) : Int) ((n / 1099511627776 % 256 : Nat) : Int) ((n / 281474976710656 % 256 : Nat) : Int) ((n / 72057594037927936 : Nat) : Int) ((n / 72057594037927936 + 192 : Nat) : Int) hl h0 hm (by rw [w8]; omega) (fd 256 _ rfl rfl) (fd 65536 _ rfl rfl) (fd 16777216 _ rfl rfl) (fd 4294967296 _ rfl rfl) (fd 1099511627776 _ rfl rfl) (fd 281474976710656 _ rfl rfl) (fd 72057594037927936 _ rfl (by omega)) (by rw [hw]; exact hor)
  rw [this]
  simp [bytesOf, a8]
theorem w27_8 (B : Fns) (d : Nat) (n : Nat) (hl : lenZ n ≤ 8) (h0 : lenZ n ≠ 0) :
    evFn tt tb B KT 1000 (d + 2) 27 [.v (.int .u64 n), .v (.int .i64 8)] [] = some (.sl 0 0 8 1, [.row ((bytesOf n 8).map a8)]) := by
  have hb := len_8 h0
  have hw : IntKind.u8.wrap 192 = 192 := by decide
  have := wide27_8 B d n ((n / 256 : Nat) : Int) ((n / 65536 : Nat) : Int) ((n / 16777216 : Nat) : Int) ((n / 4294967296 : Nat) : Int) ((n / 1099511627776 : Nat) : Int) ((n / 281474976710656 : Nat) : Int) ((n / 72057594037927936 : Nat) : Int) ((n / 18446744073709551616 : Nat) : Int) ((n % 256 : Nat) : Int) ((n / 256 % 256 : Nat) : Int) ((n / 65536 % 256 : Nat) : Int) ((n / 16777216 % 256 : Nat) : Int) ((n / 4294967296 % 256 : Nat) : Int) ((n / 1099511627776 % 256 : Nat) : Int) ((n / 281474976710656 % 256 : Nat) : Int) ((n / 72057594037927936 : Nat) : Int) ((n / 72057594037927936 + 192 : Nat) : Int) hl h0 (td (by omega) (by omega)) (td (by omega) (by omega)) (td (by omega) (by omega)) (td (by omega) (by omega)) (td (by omega) (by omega)) (td (by omega) (by omega)) (td (by omega) (by omega)) (td (by omega) (by omega)) (tm (by omega)) (tm (by omega)) (tm (by omega)) (tm (by omega)) (tm (by omega)) (tm (by omega)) (tm (by omega)) (tm (by omega)) (by rw [hw, w8]; omega)
  rw [this]
  simp [bytesOf, a8]

def okSize (k : Nat) : Prop := k = 1 ∨ k = 2 ∨ k = 4 ∨ k = 8
theorem w26 (B : Fns) (d : Nat) (xs : List Nat) (n k : Nat) (hk : okSize k) (hl : lenZ n ≤ k) (h0 : lenZ n ≠ 0) (hm : xs.length ≤ 1000) :
    evFn tt tb B KT 1000 (d + 2) 26 [.lst xs.length (xs.map a8), .v (.int .u64 n), .v (.int .i64 k)] [] = some (.tup [.sl 0 0 (xs.length + k) 1, .v (.int .i64 0)], [.row ((xs ++ bytesOf n k).map a8)]) := by
  rcases hk with rfl | rfl | rfl | rfl
  · exact w26_1 B d xs n hl h0 hm
  · exact w26_2 B d xs n hl h0 hm
  · exact w26_4 B d xs n hl h0 hm
  · exact w26_8 B d xs n hl h0 hm
theorem w27 (B : Fns) (d : Nat) (n k : Nat) (hk : okSize k) (hl : lenZ n ≤ k) (h0 : lenZ n ≠ 0) :
    evFn tt tb B KT 1000 (d + 2) 27 [.v (.int .u64 n), .v (.int .i64 k)] [] = some (.sl 0 0 k 1, [.row ((bytesOf n k).map a8)]) := by
  rcases hk with rfl | rfl | rfl | rfl
  · exact w27_1 B d n hl h0
  · exact w27_2 B d n hl h0
  · exact w27_4 B d n hl h0
  · exact w27_8 B d n hl h0
theorem bytes_lt {n k : Nat} (hk : okSize k) (hl : lenZ n ≤ k) (h0 : lenZ n ≠ 0) : ∀ b ∈ bytesOf n k, b < 256 := by
  rcases hk with rfl | rfl | rfl | rfl
  · have := len_1 hl h0
    simp [bytesOf]; omega
  · have := len_2 hl h0
    simp [bytesOf]; omega
  · have := len_4 hl h0
    simp [bytesOf]; omega
  · have := len_8 h0
    simp [bytesOf]; omega
/-- Taken from the bytes of a number, with any behind, it is as it was. -/
theorem take_bytes (B : Fns) (d : Nat) {n k : Nat} (hk : okSize k) (hl : lenZ n ≤ k) (h0 : lenZ n ≠ 0) (ys : List Nat) (hy : ∀ b ∈ ys, b < 256) :
    evFn tt tb B KT 1000 (d + 1) 28 [.lst (bytesOf n k ++ ys).length ((bytesOf n k ++ ys).map a8)] [] = some (.tup [.v (.int .u64 n), .v (.int .i64 k), .v (.int .i64 0)], []) := by
  have hb := bytes_lt hk hl h0
  have key : ∀ x r, bytesOf n k = x :: r → 2 ^ (x / 64) = k → FV (r ++ ys) (x % 64) (k - 1) = n → evFn tt tb B KT 1000 (d + 1) 28 [.lst (bytesOf n k ++ ys).length ((bytesOf n k ++ ys).map a8)] [] = some (.tup [.v (.int .u64 n), .v (.int .i64 k), .v (.int .i64 0)], []) := by
    intro x r hx hs hv
    have hlen := bytes_len n hk
    rw [hx] at hlen hb
    simp only [List.length_cons] at hlen
    have := take_ok B d x (r ++ ys) (fun b h => by rcases List.mem_append.1 h with h | h; exact hb b (List.mem_cons_of_mem _ h); exact hy b h) (hb x List.mem_cons_self) (by rw [hs]; simp; omega)
    rw [hs, hv] at this
    rw [hx]
    simpa using this
  rcases hk with rfl | rfl | rfl | rfl
  · have hb := len_1 hl h0
    have hq : n / 64 = 0 := by omega
    refine key _ _ rfl (by rw [hq]) ?_
    simp [FV]
    omega
  · have hb := len_2 hl h0
    have hq : (n / 256 + 64) / 64 = 1 := by omega
    refine key _ _ rfl (by rw [hq]) ?_
    simp [FV]
    omega
  · have hb := len_4 hl h0
    have hq : (n / 16777216 + 128) / 64 = 2 := by omega
    refine key _ _ rfl (by rw [hq]) ?_
    simp [FV]
    omega
  · have hb := len_8 h0
    have hq : (n / 72057594037927936 + 192) / 64 = 3 := by omega
    refine key _ _ rfl (by rw [hq]) ?_
    simp [FV]
    omega
end Go.Flat
