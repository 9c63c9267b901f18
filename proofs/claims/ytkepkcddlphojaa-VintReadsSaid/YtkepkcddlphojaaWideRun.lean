/-
  Len, Wide, Put, of the program and of the reference, over the plain view of memory. No condition.
-/
import Derived.Test.YtkepkcddlphojaaTakeRun
namespace Go.Flat
open Go.Proofs
set_option linter.unusedSimpArgs false
set_option linter.unusedVariables false
set_option maxRecDepth 100000
set_option maxHeartbeats 4000000

/-- How many bytes a number has at least. (Numbers are Int here: with casts from Nat, simp's proofs on great literals fall in the kernel.) -/
def lenZ (n : Int) : Int := if n < 64 then 1 else if n < 16384 then 2 else if n < 1073741824 then 4 else if n ≤ 4611686018427387903 then 8 else 0

theorem len22 (B : Fns) (K : FuncId → Nat → List Nat) (m d : Nat) (n : Int) (h : List Ob) : evFn tt tb B K m (d + 1) 22 [.v (.int .u64 n)] h = some (.v (.int .i64 (lenZ n)), h) := by
  rw [call22]
  unfold lenZ
  by_cases h1 : n < 64
  · simp [Try.f22, h1]
  · by_cases h2 : n < 16384
    · simp [Try.f22, h1, h2]
    · by_cases h3 : n < 1073741824
      · simp [Try.f22, h1, h2, h3]
      · by_cases h4 : n ≤ 4611686018427387903
        · simp [Try.f22, h1, h2, h3, h4]
        · simp [Try.f22, h1, h2, h3, h4]

theorem len23 (B : Fns) (K : FuncId → Nat → List Nat) (m d : Nat) (n : Int) (h : List Ob) : evFn tt tb B K m (d + 1) 23 [.v (.int .u64 n)] h = some (.v (.int .i64 (lenZ n)), h) := by
  rw [call23]
  unfold lenZ
  by_cases h0 : 4611686018427387903 < n
  · have h1 : ¬ n < 64 := by omega
    have h2 : ¬ n < 16384 := by omega
    have h3 : ¬ n < 1073741824 := by omega
    have h4 : ¬ n ≤ 4611686018427387903 := by omega
    rw [if_neg h1, if_neg h2, if_neg h3, if_neg h4]
    simp [Try.f23, h0]
  · have h4 : n ≤ 4611686018427387903 := by omega
    by_cases h1 : n < 64
    · simp [Try.f23, h0, h1]
    · by_cases h2 : n < 16384
      · simp [Try.f23, h0, h1, h2]
      · by_cases h3 : n < 1073741824
        · simp [Try.f23, h0, h1, h2, h3]
        · simp [Try.f23, h0, h1, h2, h3, h4]

theorem top73 (B : Fns) (K : FuncId → Nat → List Nat) (m d : Nat) (h : List Ob) : evFn tt tb B K m (d + 1) 73 [.v (.int .i64 1)] h = some (.v (.int .i64 0), h) ∧ evFn tt tb B K m (d + 1) 73 [.v (.int .i64 2)] h = some (.v (.int .i64 64), h) ∧
    evFn tt tb B K m (d + 1) 73 [.v (.int .i64 4)] h = some (.v (.int .i64 128), h) ∧ evFn tt tb B K m (d + 1) 73 [.v (.int .i64 8)] h = some (.v (.int .i64 192), h) := by
  refine ⟨?_, ?_, ?_, ?_⟩ <;> rw [call73] <;> simp [Try.f73]

theorem wide27_1 (B : Fns) (d : Nat) (n n1 b0 c : Int) (hl : lenZ n ≤ 1) (h0 : lenZ n ≠ 0) (hd0 : IntKind.u64.wrap (Int.tdiv n 256) = n1)
    (hb0 : IntKind.u8.wrap (Int.tmod n 256) = b0) (hc : IntKind.u8.wrap (b0 + IntKind.u8.wrap 0) = c) :
    evFn tt tb B KT 1000 (d + 2) 27 [.v (.int .u64 n), .v (.int .i64 1)] [] = some (.sl 0 0 1 1, [.row [.v (.int .u8 c)]]) := by
  rw [call27]
  have g1 : ¬ ((1 : Int) < lenZ n) := by omega
  have e0 : IntKind.i64.wrap 0 = 0 := by decide
  have em : IntKind.i64.wrap (-1) = -1 := by decide
  have k1 : KT 27 5 = [0, 1, 4, 5, 6] := rfl
  simp [Try.f27, len23, h0, g1, top73, k1, evLoop_step, maxLen, e0, em, hd0, hb0, hc]

theorem wide27_2 (B : Fns) (d : Nat) (n n1 n2 b0 b1 c : Int) (hl : lenZ n ≤ 2) (h0 : lenZ n ≠ 0) (hd0 : IntKind.u64.wrap (Int.tdiv n 256) = n1) (hd1 : IntKind.u64.wrap (Int.tdiv n1 256) = n2)
    (hb0 : IntKind.u8.wrap (Int.tmod n 256) = b0) (hb1 : IntKind.u8.wrap (Int.tmod n1 256) = b1) (hc : IntKind.u8.wrap (b1 + IntKind.u8.wrap 64) = c) :
    evFn tt tb B KT 1000 (d + 2) 27 [.v (.int .u64 n), .v (.int .i64 2)] [] = some (.sl 0 0 2 1, [.row [.v (.int .u8 c), .v (.int .u8 b0)]]) := by
  rw [call27]
  have g1 : ¬ ((2 : Int) < lenZ n) := by omega
  have e1 : IntKind.i64.wrap 1 = 1 := by decide
  have e0 : IntKind.i64.wrap 0 = 0 := by decide
  have em : IntKind.i64.wrap (-1) = -1 := by decide
  have k1 : KT 27 5 = [0, 1, 4, 5, 6] := rfl
  simp [Try.f27, len23, h0, g1, top73, k1, evLoop_step, maxLen, e1, e0, em, hd0, hd1, hb0, hb1, hc]

theorem wide27_4 (B : Fns) (d : Nat) (n n1 n2 n3 n4 b0 b1 b2 b3 c : Int) (hl : lenZ n ≤ 4) (h0 : lenZ n ≠ 0) (hd0 : IntKind.u64.wrap (Int.tdiv n 256) = n1) (hd1 : IntKind.u64.wrap (Int.tdiv n1 256) = n2) (hd2 : IntKind.u64.wrap (Int.tdiv n2 256) = n3) (hd3 : IntKind.u64.wrap (Int.tdiv n3 256) = n4)
    (hb0 : IntKind.u8.wrap (Int.tmod n 256) = b0) (hb1 : IntKind.u8.wrap (Int.tmod n1 256) = b1) (hb2 : IntKind.u8.wrap (Int.tmod n2 256) = b2) (hb3 : IntKind.u8.wrap (Int.tmod n3 256) = b3) (hc : IntKind.u8.wrap (b3 + IntKind.u8.wrap 128) = c) :
    evFn tt tb B KT 1000 (d + 2) 27 [.v (.int .u64 n), .v (.int .i64 4)] [] = some (.sl 0 0 4 1, [.row [.v (.int .u8 c), .v (.int .u8 b2), .v (.int .u8 b1), .v (.int .u8 b0)]]) := by
  rw [call27]
  have g1 : ¬ ((4 : Int) < lenZ n) := by omega
  have e3 : IntKind.i64.wrap 3 = 3 := by decide
  have e2 : IntKind.i64.wrap 2 = 2 := by decide
  have e1 : IntKind.i64.wrap 1 = 1 := by decide
  have e0 : IntKind.i64.wrap 0 = 0 := by decide
  have em : IntKind.i64.wrap (-1) = -1 := by decide
  have k1 : KT 27 5 = [0, 1, 4, 5, 6] := rfl
  simp [Try.f27, len23, h0, g1, top73, k1, evLoop_step, maxLen, e3, e2, e1, e0, em, hd0, hd1, hd2, hd3, hb0, hb1, hb2, hb3, hc]

theorem wide27_8 (B : Fns) (d : Nat) (n n1 n2 n3 n4 n5 n6 n7 n8 b0 b1 b2 b3 b4 b5 b6 b7 c : Int) (hl : lenZ n ≤ 8) (h0 : lenZ n ≠ 0) (hd0 : IntKind.u64.wrap (Int.tdiv n 256) = n1) (hd1 : IntKind.u64.wrap (Int.tdiv n1 256) = n2) (hd2 : IntKind.u64.wrap (Int.tdiv n2 256) = n3) (hd3 : IntKind.u64.wrap (Int.tdiv n3 256) = n4) (hd4 : IntKind.u64.wrap (Int.tdiv n4 256) = n5) (hd5 : IntKind.u64.wrap (Int.tdiv n5 256) = n6) (hd6 : IntKind.u64.wrap (Int.tdiv n6 256) = n7) (hd7 : IntKind.u64.wrap (Int.tdiv n7 256) = n8)
    (hb0 : IntKind.u8.wrap (Int.tmod n 256) = b0) (hb1 : IntKind.u8.wrap (Int.tmod n1 256) = b1) (hb2 : IntKind.u8.wrap (Int.tmod n2 256) = b2) (hb3 : IntKind.u8.wrap (Int.tmod n3 256) = b3) (hb4 : IntKind.u8.wrap (Int.tmod n4 256) = b4) (hb5 : IntKind.u8.wrap (Int.tmod n5 256) = b5) (hb6 : IntKind.u8.wrap (Int.tmod n6 256) = b6) (hb7 : IntKind.u8.wrap (Int.tmod n7 256) = b7) (hc : IntKind.u8.wrap (b7 + IntKind.u8.wrap 192) = c) :
    evFn tt tb B KT 1000 (d + 2) 27 [.v (.int .u64 n), .v (.int .i64 8)] [] = some (.sl 0 0 8 1, [.row [.v (.int .u8 c), .v (.int .u8 b6), .v (.int .u8 b5), .v (.int .u8 b4), .v (.int .u8 b3), .v (.int .u8 b2), .v (.int .u8 b1), .v (.int .u8 b0)]]) := by
  rw [call27]
  have g1 : ¬ ((8 : Int) < lenZ n) := by omega
  have e7 : IntKind.i64.wrap 7 = 7 := by decide
  have e6 : IntKind.i64.wrap 6 = 6 := by decide
  have e5 : IntKind.i64.wrap 5 = 5 := by decide
  have e4 : IntKind.i64.wrap 4 = 4 := by decide
  have e3 : IntKind.i64.wrap 3 = 3 := by decide
  have e2 : IntKind.i64.wrap 2 = 2 := by decide
  have e1 : IntKind.i64.wrap 1 = 1 := by decide
  have e0 : IntKind.i64.wrap 0 = 0 := by decide
  have em : IntKind.i64.wrap (-1) = -1 := by decide
  have k1 : KT 27 5 = [0, 1, 4, 5, 6] := rfl
  simp [Try.f27, len23, h0, g1, top73, k1, evLoop_step, maxLen, e7, e6, e5, e4, e3, e2, e1, e0, em, hd0, hd1, hd2, hd3, hd4, hd5, hd6, hd7, hb0, hb1, hb2, hb3, hb4, hb5, hb6, hb7, hc]

theorem top73_no (B : Fns) (K : FuncId → Nat → List Nat) (m d : Nat) (k : Int) (h : List Ob) (h1 : k ≠ 1) (h2 : k ≠ 2) (h4 : k ≠ 4) (h8 : k ≠ 8) : evFn tt tb B K m (d + 1) 73 [.v (.int .i64 k)] h = some (.v (.int .i64 (-1)), h) := by
  rw [call73]
  simp [Try.f73, h1, h2, h4, h8]

theorem wide27_small (B : Fns) (d : Nat) (n k : Int) (h0 : lenZ n = 0 ∨ k < lenZ n) (h : List Ob) :
    evFn tt tb B KT 1000 (d + 2) 27 [.v (.int .u64 n), .v (.int .i64 k)] h = some (.v (.slice none 0 0), h) := by
  rw [call27]
  by_cases h1 : lenZ n = 0
  · simp [Try.f27, len23, h1]
  · have h2 : k < lenZ n := h0.resolve_left h1
    simp [Try.f27, len23, h1, h2]

theorem wide27_other (B : Fns) (d : Nat) (n k : Int) (h0 : lenZ n ≠ 0) (hk : ¬ k < lenZ n) (h1 : k ≠ 1) (h2 : k ≠ 2) (h4 : k ≠ 4) (h8 : k ≠ 8) (h : List Ob) :
    evFn tt tb B KT 1000 (d + 2) 27 [.v (.int .u64 n), .v (.int .i64 k)] h = some (.v (.slice none 0 0), h) := by
  rw [call27]
  simp [Try.f27, len23, h0, hk, top73_no B KT 1000 d k h h1 h2 h4 h8]

theorem freeze_a8 (h : List Ob) : ∀ xs : List Nat, freezeAll h (xs.map a8) = some (xs.map a8, h)
  | [] => rfl
  | x :: xs => by
    have e : freeze h (a8 x) = some (a8 x, h) := rfl
    simp only [List.map_cons, freezeAll, e, freeze_a8 h xs]

theorem tk_app (xs : List Nat) (l : List A) (j : Nat) : List.take (xs.length + j) (xs.map a8 ++ l) = xs.map a8 ++ l.take j := by
  have := List.take_append (l₁ := xs.map a8) (l₂ := l) (i := xs.length + j)
  rw [this, List.take_of_length_le (by simp), List.length_map, Nat.add_sub_cancel_left]
theorem dr_app (xs : List Nat) (l : List A) (j : Nat) : List.drop (xs.length + j) (xs.map a8 ++ l) = l.drop j := by
  have := List.drop_append (l₁ := xs.map a8) (l₂ := l) (i := xs.length + j)
  rw [this, List.drop_of_length_le (by simp), List.length_map, Nat.add_sub_cancel_left, List.nil_append]
theorem tk_all (xs : List Nat) : List.take xs.length (xs.map a8) = xs.map a8 := List.take_of_length_le (by simp)

theorem wide26_1 (B : Fns) (d : Nat) (xs : List Nat) (n b0 c : Int) (hl : lenZ n ≤ 1) (h0 : lenZ n ≠ 0) (hm : xs.length ≤ 1000)
    (hb0 : IntKind.u8.wrap (n) = b0) (hc : bits .or .u8 b0 (IntKind.u8.wrap 0) = c) :
    evFn tt tb B KT 1000 (d + 2) 26 [.lst xs.length (xs.map a8), .v (.int .u64 n), .v (.int .i64 1)] [] = some (.tup [.sl 0 0 (xs.length + 1) 1, .v (.int .i64 0)], [.row (xs.map a8 ++ [.v (.int .u8 c)])]) := by
  rw [call26]
  have g1 : ¬ ((1 : Int) < lenZ n) := by omega
  have em : IntKind.i64.wrap (-1) = -1 := by decide
  have k1 : KT 26 17 = [1, 9, 10, 11, 12] := rfl
  have e0 : IntKind.i64.wrap 0 = 0 := by decide
  have l0 : xs.length ≤ 140737488355328 := by omega
  have l1 : xs.length + 1 ≤ 140737488355328 := by omega
  have t0 : ∀ l, List.take (xs.length) (xs.map a8 ++ l) = xs.map a8 ++ l.take 0 := fun l => tk_app xs l 0
  have lt : (xs.length : Int) < (xs.length : Int) + 1 := by omega
  have r0 : ∀ l, List.drop xs.length (xs.map a8 ++ l) = l := fun l => dr_app xs l 0
  have r1 : ∀ l, List.drop (xs.length + 1) (xs.map a8 ++ l) = l.drop 1 := fun l => dr_app xs l 1
  simp [Try.f26, freeze_a8, lt, tk_all, r0, r1, len22, h0, g1, k1, evLoop_step, maxLen, em, e0, l0, l1, t0, hb0, hc]

theorem wide26_2 (B : Fns) (d : Nat) (xs : List Nat) (n b0 b1 c : Int) (hl : lenZ n ≤ 2) (h0 : lenZ n ≠ 0) (hm : xs.length ≤ 1000)
    (hb0 : IntKind.u8.wrap (n) = b0) (hb1 : IntKind.u8.wrap (Int.fdiv n 256) = b1) (hc : bits .or .u8 b1 (IntKind.u8.wrap 64) = c) :
    evFn tt tb B KT 1000 (d + 2) 26 [.lst xs.length (xs.map a8), .v (.int .u64 n), .v (.int .i64 2)] [] = some (.tup [.sl 0 0 (xs.length + 2) 1, .v (.int .i64 0)], [.row (xs.map a8 ++ [.v (.int .u8 c), .v (.int .u8 b0)])]) := by
  rw [call26]
  have g1 : ¬ ((2 : Int) < lenZ n) := by omega
  have em : IntKind.i64.wrap (-1) = -1 := by decide
  have k1 : KT 26 17 = [1, 9, 10, 11, 12] := rfl
  have e1 : IntKind.i64.wrap 1 = 1 := by decide
  have f1 : IntKind.i64.wrap 8 = 8 := by decide
  have e0 : IntKind.i64.wrap 0 = 0 := by decide
  have l0 : xs.length ≤ 140737488355328 := by omega
  have l1 : xs.length + 1 ≤ 140737488355328 := by omega
  have l2 : xs.length + 1 + 1 ≤ 140737488355328 := by omega
  have t0 : ∀ l, List.take (xs.length) (xs.map a8 ++ l) = xs.map a8 ++ l.take 0 := fun l => tk_app xs l 0
  have t1 : ∀ l, List.take (xs.length + 1) (xs.map a8 ++ l) = xs.map a8 ++ l.take 1 := fun l => tk_app xs l 1
  have lt : (xs.length : Int) < (xs.length : Int) + 1 + 1 := by omega
  have r0 : ∀ l, List.drop xs.length (xs.map a8 ++ l) = l := fun l => dr_app xs l 0
  have r1 : ∀ l, List.drop (xs.length + 1) (xs.map a8 ++ l) = l.drop 1 := fun l => dr_app xs l 1
  simp [Try.f26, freeze_a8, lt, tk_all, r0, r1, len22, h0, g1, k1, evLoop_step, maxLen, em, e1, f1, e0, l0, l1, l2, t0, t1, hb0, hb1, hc]

theorem wide26_4 (B : Fns) (d : Nat) (xs : List Nat) (n b0 b1 b2 b3 c : Int) (hl : lenZ n ≤ 4) (h0 : lenZ n ≠ 0) (hm : xs.length ≤ 1000)
    (hb0 : IntKind.u8.wrap (n) = b0) (hb1 : IntKind.u8.wrap (Int.fdiv n 256) = b1) (hb2 : IntKind.u8.wrap (Int.fdiv n 65536) = b2) (hb3 : IntKind.u8.wrap (Int.fdiv n 16777216) = b3) (hc : bits .or .u8 b3 (IntKind.u8.wrap 128) = c) :
    evFn tt tb B KT 1000 (d + 2) 26 [.lst xs.length (xs.map a8), .v (.int .u64 n), .v (.int .i64 4)] [] = some (.tup [.sl 0 0 (xs.length + 4) 1, .v (.int .i64 0)], [.row (xs.map a8 ++ [.v (.int .u8 c), .v (.int .u8 b2), .v (.int .u8 b1), .v (.int .u8 b0)])]) := by
  rw [call26]
  have g1 : ¬ ((4 : Int) < lenZ n) := by omega
  have em : IntKind.i64.wrap (-1) = -1 := by decide
  have k1 : KT 26 17 = [1, 9, 10, 11, 12] := rfl
  have e3 : IntKind.i64.wrap 3 = 3 := by decide
  have f3 : IntKind.i64.wrap 24 = 24 := by decide
  have e2 : IntKind.i64.wrap 2 = 2 := by decide
  have f2 : IntKind.i64.wrap 16 = 16 := by decide
  have e1 : IntKind.i64.wrap 1 = 1 := by decide
  have f1 : IntKind.i64.wrap 8 = 8 := by decide
  have e0 : IntKind.i64.wrap 0 = 0 := by decide
  have l0 : xs.length ≤ 140737488355328 := by omega
  have l1 : xs.length + 1 ≤ 140737488355328 := by omega
  have l2 : xs.length + 1 + 1 ≤ 140737488355328 := by omega
  have l3 : xs.length + 1 + 1 + 1 ≤ 140737488355328 := by omega
  have l4 : xs.length + 1 + 1 + 1 + 1 ≤ 140737488355328 := by omega
  have t0 : ∀ l, List.take (xs.length) (xs.map a8 ++ l) = xs.map a8 ++ l.take 0 := fun l => tk_app xs l 0
  have t1 : ∀ l, List.take (xs.length + 1) (xs.map a8 ++ l) = xs.map a8 ++ l.take 1 := fun l => tk_app xs l 1
  have t2 : ∀ l, List.take (xs.length + 1 + 1) (xs.map a8 ++ l) = xs.map a8 ++ l.take 2 := fun l => tk_app xs l 2
  have t3 : ∀ l, List.take (xs.length + 1 + 1 + 1) (xs.map a8 ++ l) = xs.map a8 ++ l.take 3 := fun l => tk_app xs l 3
  have lt : (xs.length : Int) < (xs.length : Int) + 1 + 1 + 1 + 1 := by omega
  have r0 : ∀ l, List.drop xs.length (xs.map a8 ++ l) = l := fun l => dr_app xs l 0
  have r1 : ∀ l, List.drop (xs.length + 1) (xs.map a8 ++ l) = l.drop 1 := fun l => dr_app xs l 1
  simp [Try.f26, freeze_a8, lt, tk_all, r0, r1, len22, h0, g1, k1, evLoop_step, maxLen, em, e3, f3, e2, f2, e1, f1, e0, l0, l1, l2, l3, l4, t0, t1, t2, t3, hb0, hb1, hb2, hb3, hc]

theorem wide26_8 (B : Fns) (d : Nat) (xs : List Nat) (n b0 b1 b2 b3 b4 b5 b6 b7 c : Int) (hl : lenZ n ≤ 8) (h0 : lenZ n ≠ 0) (hm : xs.length ≤ 1000)
    (hb0 : IntKind.u8.wrap (n) = b0) (hb1 : IntKind.u8.wrap (Int.fdiv n 256) = b1) (hb2 : IntKind.u8.wrap (Int.fdiv n 65536) = b2) (hb3 : IntKind.u8.wrap (Int.fdiv n 16777216) = b3) (hb4 : IntKind.u8.wrap (Int.fdiv n 4294967296) = b4) (hb5 : IntKind.u8.wrap (Int.fdiv n 1099511627776) = b5) (hb6 : IntKind.u8.wrap (Int.fdiv n 281474976710656) = b6) (hb7 : IntKind.u8.wrap (Int.fdiv n 72057594037927936) = b7) (hc : bits .or .u8 b7 (IntKind.u8.wrap 192) = c) :
    evFn tt tb B KT 1000 (d + 2) 26 [.lst xs.length (xs.map a8), .v (.int .u64 n), .v (.int .i64 8)] [] = some (.tup [.sl 0 0 (xs.length + 8) 1, .v (.int .i64 0)], [.row (xs.map a8 ++ [.v (.int .u8 c), .v (.int .u8 b6), .v (.int .u8 b5), .v (.int .u8 b4), .v (.int .u8 b3), .v (.int .u8 b2), .v (.int .u8 b1), .v (.int .u8 b0)])]) := by
  rw [call26]
  have g1 : ¬ ((8 : Int) < lenZ n) := by omega
  have em : IntKind.i64.wrap (-1) = -1 := by decide
  have k1 : KT 26 17 = [1, 9, 10, 11, 12] := rfl
  have e7 : IntKind.i64.wrap 7 = 7 := by decide
  have f7 : IntKind.i64.wrap 56 = 56 := by decide
  have e6 : IntKind.i64.wrap 6 = 6 := by decide
  have f6 : IntKind.i64.wrap 48 = 48 := by decide
  have e5 : IntKind.i64.wrap 5 = 5 := by decide
  have f5 : IntKind.i64.wrap 40 = 40 := by decide
  have e4 : IntKind.i64.wrap 4 = 4 := by decide
  have f4 : IntKind.i64.wrap 32 = 32 := by decide
  have e3 : IntKind.i64.wrap 3 = 3 := by decide
  have f3 : IntKind.i64.wrap 24 = 24 := by decide
  have e2 : IntKind.i64.wrap 2 = 2 := by decide
  have f2 : IntKind.i64.wrap 16 = 16 := by decide
  have e1 : IntKind.i64.wrap 1 = 1 := by decide
  have f1 : IntKind.i64.wrap 8 = 8 := by decide
  have e0 : IntKind.i64.wrap 0 = 0 := by decide
  have l0 : xs.length ≤ 140737488355328 := by omega
  have l1 : xs.length + 1 ≤ 140737488355328 := by omega
  have l2 : xs.length + 1 + 1 ≤ 140737488355328 := by omega
  have l3 : xs.length + 1 + 1 + 1 ≤ 140737488355328 := by omega
  have l4 : xs.length + 1 + 1 + 1 + 1 ≤ 140737488355328 := by omega
  have l5 : xs.length + 1 + 1 + 1 + 1 + 1 ≤ 140737488355328 := by omega
  have l6 : xs.length + 1 + 1 + 1 + 1 + 1 + 1 ≤ 140737488355328 := by omega
  have l7 : xs.length + 1 + 1 + 1 + 1 + 1 + 1 + 1 ≤ 140737488355328 := by omega
  have l8 : xs.length + 1 + 1 + 1 + 1 + 1 + 1 + 1 + 1 ≤ 140737488355328 := by omega
  have t0 : ∀ l, List.take (xs.length) (xs.map a8 ++ l) = xs.map a8 ++ l.take 0 := fun l => tk_app xs l 0
  have t1 : ∀ l, List.take (xs.length + 1) (xs.map a8 ++ l) = xs.map a8 ++ l.take 1 := fun l => tk_app xs l 1
  have t2 : ∀ l, List.take (xs.length + 1 + 1) (xs.map a8 ++ l) = xs.map a8 ++ l.take 2 := fun l => tk_app xs l 2
  have t3 : ∀ l, List.take (xs.length + 1 + 1 + 1) (xs.map a8 ++ l) = xs.map a8 ++ l.take 3 := fun l => tk_app xs l 3
  have t4 : ∀ l, List.take (xs.length + 1 + 1 + 1 + 1) (xs.map a8 ++ l) = xs.map a8 ++ l.take 4 := fun l => tk_app xs l 4
  have t5 : ∀ l, List.take (xs.length + 1 + 1 + 1 + 1 + 1) (xs.map a8 ++ l) = xs.map a8 ++ l.take 5 := fun l => tk_app xs l 5
  have t6 : ∀ l, List.take (xs.length + 1 + 1 + 1 + 1 + 1 + 1) (xs.map a8 ++ l) = xs.map a8 ++ l.take 6 := fun l => tk_app xs l 6
  have t7 : ∀ l, List.take (xs.length + 1 + 1 + 1 + 1 + 1 + 1 + 1) (xs.map a8 ++ l) = xs.map a8 ++ l.take 7 := fun l => tk_app xs l 7
  have lt : (xs.length : Int) < (xs.length : Int) + 1 + 1 + 1 + 1 + 1 + 1 + 1 + 1 := by omega
  have r0 : ∀ l, List.drop xs.length (xs.map a8 ++ l) = l := fun l => dr_app xs l 0
  have r1 : ∀ l, List.drop (xs.length + 1) (xs.map a8 ++ l) = l.drop 1 := fun l => dr_app xs l 1
  simp [Try.f26, freeze_a8, lt, tk_all, r0, r1, len22, h0, g1, k1, evLoop_step, maxLen, em, e7, f7, e6, f6, e5, f5, e4, f4, e3, f3, e2, f2, e1, f1, e0, l0, l1, l2, l3, l4, l5, l6, l7, l8, t0, t1, t2, t3, t4, t5, t6, t7, hb0, hb1, hb2, hb3, hb4, hb5, hb6, hb7, hc]

theorem wide26_other (B : Fns) (d : Nat) (x : A) (n k : Int) (h1 : k ≠ 1) (h2 : k ≠ 2) (h4 : k ≠ 4) (h8 : k ≠ 8) (h : List Ob) :
    evFn tt tb B KT 1000 (d + 2) 26 [x, .v (.int .u64 n), .v (.int .i64 k)] h = some (.tup [.v (.slice none 0 0), .v (.int .i64 2)], h) := by
  rw [call26]
  simp [Try.f26, len22, h1, h2, h4, h8]
theorem wide26_small (B : Fns) (d : Nat) (x : A) (n k : Int) (hk : k = 1 ∨ k = 2 ∨ k = 4 ∨ k = 8) (h0 : lenZ n = 0 ∨ k < lenZ n) (h : List Ob) :
    evFn tt tb B KT 1000 (d + 2) 26 [x, .v (.int .u64 n), .v (.int .i64 k)] h = some (.tup [.v (.slice none 0 0), .v (.int .i64 2)], h) := by
  rw [call26]
  by_cases h1 : lenZ n = 0
  · rcases hk with rfl | rfl | rfl | rfl <;> simp [Try.f26, len22, h1]
  · have h2 : k < lenZ n := h0.resolve_left h1
    rcases hk with rfl | rfl | rfl | rfl <;> simp [Try.f26, len22, h1, h2]
end Go.Flat
