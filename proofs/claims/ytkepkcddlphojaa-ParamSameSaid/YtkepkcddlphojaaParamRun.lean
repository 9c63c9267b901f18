/-
  param.Same and the law's own functions over the plain view of memory. No condition.
-/
import Derived.Test.YtkepkcddlphojaaFlatT
import Derived.Test.YtkepkcddlphojaaFlatQ
import Derived.Test.YtkepkcddlphojaaFlatR
namespace Go.Flat
open Go.Proofs
set_option linter.unusedSimpArgs false
set_option maxRecDepth 100000
set_option maxHeartbeats 8000000

def KP : FuncId → Nat → List Nat
  | 83, 2 => [1, 13, 14, 15]
  | 74, 6 => [1, 5, 17, 18, 19]
  | 44, 3 => [2, 3, 5, 6, 11, 12]
  | 26, 17 => [1, 9, 10, 11, 12]
  | 30, 2 => [0, 10, 11, 12]
  | _, _ => []
theorem KP44 : KP 44 3 = [2, 3, 5, 6, 11, 12] := rfl
theorem param_awake : evFn tt tb noFns KP 1000 9 43 [] [] = some (.v (.bool true), []) := by kernel_rfl

theorem nums45 (d : Nat) (u0 u1 u2 u3 u4 u5 u6 u7 u8 : Int) (nx : Nat) (cx : List A) :
    evFn tt tb noFns KP 1000 (d + 1) 45 [.agg [.v (.int .u64 u0), .v (.int .u64 u1), .v (.int .u64 u2), .v (.int .u64 u3), .v (.int .u64 u4), .v (.int .u64 u5), .v (.int .u64 u6), .v (.int .u64 u7), .v (.int .u64 u8), .lst nx cx]] [] = some (.agg [.v (.int .u64 u0), .v (.int .u64 u1), .v (.int .u64 u2), .v (.int .u64 u3), .v (.int .u64 u4), .v (.int .u64 u5), .v (.int .u64 u6), .v (.int .u64 u7), .v (.int .u64 u8)], []) := by
  rw [call45]
  simp [Try.f45]
theorem ent75 (d : Nat) (u0 u1 u2 u3 u4 u5 u6 u7 u8 v0 v1 v2 v3 v4 v5 v6 v7 v8 : Int) (nx ny : Nat) (cx cy : List A) :
    evFn tt tb noFns KP 1000 (d + 1) 75 [.ptr 0 0] [.cells [.v (.int .u64 u0), .v (.int .u64 u1), .v (.int .u64 u2), .v (.int .u64 u3), .v (.int .u64 u4), .v (.int .u64 u5), .v (.int .u64 u6), .v (.int .u64 u7), .v (.int .u64 u8), .lst nx cx], .cells [.v (.int .u64 v0), .v (.int .u64 v1), .v (.int .u64 v2), .v (.int .u64 v3), .v (.int .u64 v4), .v (.int .u64 v5), .v (.int .u64 v6), .v (.int .u64 v7), .v (.int .u64 v8), .lst ny cy]] = some (.sl 2 0 9 2, [.cells [.v (.int .u64 u0), .v (.int .u64 u1), .v (.int .u64 u2), .v (.int .u64 u3), .v (.int .u64 u4), .v (.int .u64 u5), .v (.int .u64 u6), .v (.int .u64 u7), .v (.int .u64 u8), .lst nx cx], .cells [.v (.int .u64 v0), .v (.int .u64 v1), .v (.int .u64 v2), .v (.int .u64 v3), .v (.int .u64 v4), .v (.int .u64 v5), .v (.int .u64 v6), .v (.int .u64 v7), .v (.int .u64 v8), .lst ny cy], .cells [.v (.int .u64 1), .ptr 0 0, .v (.int .u64 4), .ptr 0 1, .v (.int .u64 5), .ptr 0 2, .v (.int .u64 6), .ptr 0 3, .v (.int .u64 7), .ptr 0 4, .v (.int .u64 8), .ptr 0 5, .v (.int .u64 9), .ptr 0 6, .v (.int .u64 11), .ptr 0 7, .v (.int .u64 14), .ptr 0 8]]) ∧
    evFn tt tb noFns KP 1000 (d + 1) 75 [.ptr 1 0] [.cells [.v (.int .u64 u0), .v (.int .u64 u1), .v (.int .u64 u2), .v (.int .u64 u3), .v (.int .u64 u4), .v (.int .u64 u5), .v (.int .u64 u6), .v (.int .u64 u7), .v (.int .u64 u8), .lst nx cx], .cells [.v (.int .u64 v0), .v (.int .u64 v1), .v (.int .u64 v2), .v (.int .u64 v3), .v (.int .u64 v4), .v (.int .u64 v5), .v (.int .u64 v6), .v (.int .u64 v7), .v (.int .u64 v8), .lst ny cy], .cells [.v (.int .u64 1), .ptr 0 0, .v (.int .u64 4), .ptr 0 1, .v (.int .u64 5), .ptr 0 2, .v (.int .u64 6), .ptr 0 3, .v (.int .u64 7), .ptr 0 4, .v (.int .u64 8), .ptr 0 5, .v (.int .u64 9), .ptr 0 6, .v (.int .u64 11), .ptr 0 7, .v (.int .u64 14), .ptr 0 8]] = some (.sl 3 0 9 2, [.cells [.v (.int .u64 u0), .v (.int .u64 u1), .v (.int .u64 u2), .v (.int .u64 u3), .v (.int .u64 u4), .v (.int .u64 u5), .v (.int .u64 u6), .v (.int .u64 u7), .v (.int .u64 u8), .lst nx cx], .cells [.v (.int .u64 v0), .v (.int .u64 v1), .v (.int .u64 v2), .v (.int .u64 v3), .v (.int .u64 v4), .v (.int .u64 v5), .v (.int .u64 v6), .v (.int .u64 v7), .v (.int .u64 v8), .lst ny cy], .cells [.v (.int .u64 1), .ptr 0 0, .v (.int .u64 4), .ptr 0 1, .v (.int .u64 5), .ptr 0 2, .v (.int .u64 6), .ptr 0 3, .v (.int .u64 7), .ptr 0 4, .v (.int .u64 8), .ptr 0 5, .v (.int .u64 9), .ptr 0 6, .v (.int .u64 11), .ptr 0 7, .v (.int .u64 14), .ptr 0 8], .cells [.v (.int .u64 1), .ptr 1 0, .v (.int .u64 4), .ptr 1 1, .v (.int .u64 5), .ptr 1 2, .v (.int .u64 6), .ptr 1 3, .v (.int .u64 7), .ptr 1 4, .v (.int .u64 8), .ptr 1 5, .v (.int .u64 9), .ptr 1 6, .v (.int .u64 11), .ptr 1 7, .v (.int .u64 14), .ptr 1 8]]) := by
  rw [call75, call75]
  constructor <;> simp [Try.f75]

/-- Same of two whose numbers differ first at a place, or nowhere. -/
theorem same44 (d : Nat) (u0 u1 u2 u3 u4 u5 u6 u7 u8 v0 v1 v2 v3 v4 v5 v6 v7 v8 : Int) (nx ny : Nat) (cx cy : List A) (s1 s2 : ByteArray) (hsx : ∀ h, evConvert tt 31 9 (.lst nx cx) h = some (.v (.string s1), h)) (hsy : ∀ h, evConvert tt 31 9 (.lst ny cy) h = some (.v (.string s2), h)) :
    evFn tt tb noFns KP 1000 (d + 2) 44 [.agg [.v (.int .u64 u0), .v (.int .u64 u1), .v (.int .u64 u2), .v (.int .u64 u3), .v (.int .u64 u4), .v (.int .u64 u5), .v (.int .u64 u6), .v (.int .u64 u7), .v (.int .u64 u8), .lst nx cx], .agg [.v (.int .u64 v0), .v (.int .u64 v1), .v (.int .u64 v2), .v (.int .u64 v3), .v (.int .u64 v4), .v (.int .u64 v5), .v (.int .u64 v6), .v (.int .u64 v7), .v (.int .u64 v8), .lst ny cy]] [] = some (.v (.bool (decide (u0 = v0 ∧ u1 = v1 ∧ u2 = v2 ∧ u3 = v3 ∧ u4 = v4 ∧ u5 = v5 ∧ u6 = v6 ∧ u7 = v7 ∧ u8 = v8) && (s1.toList == s2.toList))), []) := by
  obtain ⟨e1, e2⟩ := ent75 d u0 u1 u2 u3 u4 u5 u6 u7 u8 v0 v1 v2 v3 v4 v5 v6 v7 v8 nx ny cx cy
  rw [call44]
  simp [Try.f44, e1, e2, KP44]
  have wn : ∀ i : Nat, i < 9 → IntKind.i64.wrap ((i : Int) + 1) = i + 1 := fun i hi => by unfold IntKind.wrap; simp [IntKind.signed, IntKind.bits]; omega
  have w1 : IntKind.i64.wrap 1 = 1 := by decide
  have w2 : IntKind.i64.wrap 2 = 2 := by decide
  have w3 : IntKind.i64.wrap 3 = 3 := by decide
  have w4 : IntKind.i64.wrap 4 = 4 := by decide
  have w5 : IntKind.i64.wrap 5 = 5 := by decide
  have w6 : IntKind.i64.wrap 6 = 6 := by decide
  have w7 : IntKind.i64.wrap 7 = 7 := by decide
  have w8 : IntKind.i64.wrap 8 = 8 := by decide
  have w9 : IntKind.i64.wrap 9 = 9 := by decide
  by_cases h0 : u0 = v0
  case neg =>
    rw [evLoop_upto (fun i => ⟨slots 38 [(2, .ptr 0 0), (3, .ptr 1 0), (5, .sl 2 0 9 2), (6, .sl 3 0 9 2), (11, .v (.int .i64 9)), (12, .v (.int .i64 i))], [.cells [.v (.int .u64 u0), .v (.int .u64 u1), .v (.int .u64 u2), .v (.int .u64 u3), .v (.int .u64 u4), .v (.int .u64 u5), .v (.int .u64 u6), .v (.int .u64 u7), .v (.int .u64 u8), .lst nx cx], .cells [.v (.int .u64 v0), .v (.int .u64 v1), .v (.int .u64 v2), .v (.int .u64 v3), .v (.int .u64 v4), .v (.int .u64 v5), .v (.int .u64 v6), .v (.int .u64 v7), .v (.int .u64 v8), .lst ny cy], .cells [.v (.int .u64 1), .ptr 0 0, .v (.int .u64 4), .ptr 0 1, .v (.int .u64 5), .ptr 0 2, .v (.int .u64 6), .ptr 0 3, .v (.int .u64 7), .ptr 0 4, .v (.int .u64 8), .ptr 0 5, .v (.int .u64 9), .ptr 0 6, .v (.int .u64 11), .ptr 0 7, .v (.int .u64 14), .ptr 0 8], .cells [.v (.int .u64 1), .ptr 1 0, .v (.int .u64 4), .ptr 1 1, .v (.int .u64 5), .ptr 1 2, .v (.int .u64 6), .ptr 1 3, .v (.int .u64 7), .ptr 1 4, .v (.int .u64 8), .ptr 1 5, .v (.int .u64 9), .ptr 1 6, .v (.int .u64 11), .ptr 1 7, .v (.int .u64 14), .ptr 1 8]]⟩) 0 1000 ?_ ?_ (by omega)]
    · simp [h0]
    · simp
    · intro i hi
      exact absurd hi (Nat.not_lt_zero _)
  by_cases h1 : u1 = v1
  case neg =>
    rw [evLoop_upto (fun i => ⟨slots 38 [(2, .ptr 0 0), (3, .ptr 1 0), (5, .sl 2 0 9 2), (6, .sl 3 0 9 2), (11, .v (.int .i64 9)), (12, .v (.int .i64 i))], [.cells [.v (.int .u64 u0), .v (.int .u64 u1), .v (.int .u64 u2), .v (.int .u64 u3), .v (.int .u64 u4), .v (.int .u64 u5), .v (.int .u64 u6), .v (.int .u64 u7), .v (.int .u64 u8), .lst nx cx], .cells [.v (.int .u64 v0), .v (.int .u64 v1), .v (.int .u64 v2), .v (.int .u64 v3), .v (.int .u64 v4), .v (.int .u64 v5), .v (.int .u64 v6), .v (.int .u64 v7), .v (.int .u64 v8), .lst ny cy], .cells [.v (.int .u64 1), .ptr 0 0, .v (.int .u64 4), .ptr 0 1, .v (.int .u64 5), .ptr 0 2, .v (.int .u64 6), .ptr 0 3, .v (.int .u64 7), .ptr 0 4, .v (.int .u64 8), .ptr 0 5, .v (.int .u64 9), .ptr 0 6, .v (.int .u64 11), .ptr 0 7, .v (.int .u64 14), .ptr 0 8], .cells [.v (.int .u64 1), .ptr 1 0, .v (.int .u64 4), .ptr 1 1, .v (.int .u64 5), .ptr 1 2, .v (.int .u64 6), .ptr 1 3, .v (.int .u64 7), .ptr 1 4, .v (.int .u64 8), .ptr 1 5, .v (.int .u64 9), .ptr 1 6, .v (.int .u64 11), .ptr 1 7, .v (.int .u64 14), .ptr 1 8]]⟩) 1 1000 ?_ ?_ (by omega)]
    · simp [h1]
    · simp
    · intro i hi
      rcases (by omega : i = 0) with rfl
      · simp [h0, w1, w2, w3, w4, w5, w6, w7, w8, w9]
  by_cases h2 : u2 = v2
  case neg =>
    rw [evLoop_upto (fun i => ⟨slots 38 [(2, .ptr 0 0), (3, .ptr 1 0), (5, .sl 2 0 9 2), (6, .sl 3 0 9 2), (11, .v (.int .i64 9)), (12, .v (.int .i64 i))], [.cells [.v (.int .u64 u0), .v (.int .u64 u1), .v (.int .u64 u2), .v (.int .u64 u3), .v (.int .u64 u4), .v (.int .u64 u5), .v (.int .u64 u6), .v (.int .u64 u7), .v (.int .u64 u8), .lst nx cx], .cells [.v (.int .u64 v0), .v (.int .u64 v1), .v (.int .u64 v2), .v (.int .u64 v3), .v (.int .u64 v4), .v (.int .u64 v5), .v (.int .u64 v6), .v (.int .u64 v7), .v (.int .u64 v8), .lst ny cy], .cells [.v (.int .u64 1), .ptr 0 0, .v (.int .u64 4), .ptr 0 1, .v (.int .u64 5), .ptr 0 2, .v (.int .u64 6), .ptr 0 3, .v (.int .u64 7), .ptr 0 4, .v (.int .u64 8), .ptr 0 5, .v (.int .u64 9), .ptr 0 6, .v (.int .u64 11), .ptr 0 7, .v (.int .u64 14), .ptr 0 8], .cells [.v (.int .u64 1), .ptr 1 0, .v (.int .u64 4), .ptr 1 1, .v (.int .u64 5), .ptr 1 2, .v (.int .u64 6), .ptr 1 3, .v (.int .u64 7), .ptr 1 4, .v (.int .u64 8), .ptr 1 5, .v (.int .u64 9), .ptr 1 6, .v (.int .u64 11), .ptr 1 7, .v (.int .u64 14), .ptr 1 8]]⟩) 2 1000 ?_ ?_ (by omega)]
    · simp [h2]
    · simp
    · intro i hi
      rcases (by omega : i = 0 ∨ i = 1) with rfl | rfl
      · simp [h0, w1, w2, w3, w4, w5, w6, w7, w8, w9]
      · simp [h1, w1, w2, w3, w4, w5, w6, w7, w8, w9]
  by_cases h3 : u3 = v3
  case neg =>
    rw [evLoop_upto (fun i => ⟨slots 38 [(2, .ptr 0 0), (3, .ptr 1 0), (5, .sl 2 0 9 2), (6, .sl 3 0 9 2), (11, .v (.int .i64 9)), (12, .v (.int .i64 i))], [.cells [.v (.int .u64 u0), .v (.int .u64 u1), .v (.int .u64 u2), .v (.int .u64 u3), .v (.int .u64 u4), .v (.int .u64 u5), .v (.int .u64 u6), .v (.int .u64 u7), .v (.int .u64 u8), .lst nx cx], .cells [.v (.int .u64 v0), .v (.int .u64 v1), .v (.int .u64 v2), .v (.int .u64 v3), .v (.int .u64 v4), .v (.int .u64 v5), .v (.int .u64 v6), .v (.int .u64 v7), .v (.int .u64 v8), .lst ny cy], .cells [.v (.int .u64 1), .ptr 0 0, .v (.int .u64 4), .ptr 0 1, .v (.int .u64 5), .ptr 0 2, .v (.int .u64 6), .ptr 0 3, .v (.int .u64 7), .ptr 0 4, .v (.int .u64 8), .ptr 0 5, .v (.int .u64 9), .ptr 0 6, .v (.int .u64 11), .ptr 0 7, .v (.int .u64 14), .ptr 0 8], .cells [.v (.int .u64 1), .ptr 1 0, .v (.int .u64 4), .ptr 1 1, .v (.int .u64 5), .ptr 1 2, .v (.int .u64 6), .ptr 1 3, .v (.int .u64 7), .ptr 1 4, .v (.int .u64 8), .ptr 1 5, .v (.int .u64 9), .ptr 1 6, .v (.int .u64 11), .ptr 1 7, .v (.int .u64 14), .ptr 1 8]]⟩) 3 1000 ?_ ?_ (by omega)]
    · simp [h3]
    · simp
    · intro i hi
      rcases (by omega : i = 0 ∨ i = 1 ∨ i = 2) with rfl | rfl | rfl
      · simp [h0, w1, w2, w3, w4, w5, w6, w7, w8, w9]
      · simp [h1, w1, w2, w3, w4, w5, w6, w7, w8, w9]
      · simp [h2, w1, w2, w3, w4, w5, w6, w7, w8, w9]
  by_cases h4 : u4 = v4
  case neg =>
    rw [evLoop_upto (fun i => ⟨slots 38 [(2, .ptr 0 0), (3, .ptr 1 0), (5, .sl 2 0 9 2), (6, .sl 3 0 9 2), (11, .v (.int .i64 9)), (12, .v (.int .i64 i))], [.cells [.v (.int .u64 u0), .v (.int .u64 u1), .v (.int .u64 u2), .v (.int .u64 u3), .v (.int .u64 u4), .v (.int .u64 u5), .v (.int .u64 u6), .v (.int .u64 u7), .v (.int .u64 u8), .lst nx cx], .cells [.v (.int .u64 v0), .v (.int .u64 v1), .v (.int .u64 v2), .v (.int .u64 v3), .v (.int .u64 v4), .v (.int .u64 v5), .v (.int .u64 v6), .v (.int .u64 v7), .v (.int .u64 v8), .lst ny cy], .cells [.v (.int .u64 1), .ptr 0 0, .v (.int .u64 4), .ptr 0 1, .v (.int .u64 5), .ptr 0 2, .v (.int .u64 6), .ptr 0 3, .v (.int .u64 7), .ptr 0 4, .v (.int .u64 8), .ptr 0 5, .v (.int .u64 9), .ptr 0 6, .v (.int .u64 11), .ptr 0 7, .v (.int .u64 14), .ptr 0 8], .cells [.v (.int .u64 1), .ptr 1 0, .v (.int .u64 4), .ptr 1 1, .v (.int .u64 5), .ptr 1 2, .v (.int .u64 6), .ptr 1 3, .v (.int .u64 7), .ptr 1 4, .v (.int .u64 8), .ptr 1 5, .v (.int .u64 9), .ptr 1 6, .v (.int .u64 11), .ptr 1 7, .v (.int .u64 14), .ptr 1 8]]⟩) 4 1000 ?_ ?_ (by omega)]
    · simp [h4]
    · simp
    · intro i hi
      rcases (by omega : i = 0 ∨ i = 1 ∨ i = 2 ∨ i = 3) with rfl | rfl | rfl | rfl
      · simp [h0, w1, w2, w3, w4, w5, w6, w7, w8, w9]
      · simp [h1, w1, w2, w3, w4, w5, w6, w7, w8, w9]
      · simp [h2, w1, w2, w3, w4, w5, w6, w7, w8, w9]
      · simp [h3, w1, w2, w3, w4, w5, w6, w7, w8, w9]
  by_cases h5 : u5 = v5
  case neg =>
    rw [evLoop_upto (fun i => ⟨slots 38 [(2, .ptr 0 0), (3, .ptr 1 0), (5, .sl 2 0 9 2), (6, .sl 3 0 9 2), (11, .v (.int .i64 9)), (12, .v (.int .i64 i))], [.cells [.v (.int .u64 u0), .v (.int .u64 u1), .v (.int .u64 u2), .v (.int .u64 u3), .v (.int .u64 u4), .v (.int .u64 u5), .v (.int .u64 u6), .v (.int .u64 u7), .v (.int .u64 u8), .lst nx cx], .cells [.v (.int .u64 v0), .v (.int .u64 v1), .v (.int .u64 v2), .v (.int .u64 v3), .v (.int .u64 v4), .v (.int .u64 v5), .v (.int .u64 v6), .v (.int .u64 v7), .v (.int .u64 v8), .lst ny cy], .cells [.v (.int .u64 1), .ptr 0 0, .v (.int .u64 4), .ptr 0 1, .v (.int .u64 5), .ptr 0 2, .v (.int .u64 6), .ptr 0 3, .v (.int .u64 7), .ptr 0 4, .v (.int .u64 8), .ptr 0 5, .v (.int .u64 9), .ptr 0 6, .v (.int .u64 11), .ptr 0 7, .v (.int .u64 14), .ptr 0 8], .cells [.v (.int .u64 1), .ptr 1 0, .v (.int .u64 4), .ptr 1 1, .v (.int .u64 5), .ptr 1 2, .v (.int .u64 6), .ptr 1 3, .v (.int .u64 7), .ptr 1 4, .v (.int .u64 8), .ptr 1 5, .v (.int .u64 9), .ptr 1 6, .v (.int .u64 11), .ptr 1 7, .v (.int .u64 14), .ptr 1 8]]⟩) 5 1000 ?_ ?_ (by omega)]
    · simp [h5]
    · simp
    · intro i hi
      rcases (by omega : i = 0 ∨ i = 1 ∨ i = 2 ∨ i = 3 ∨ i = 4) with rfl | rfl | rfl | rfl | rfl
      · simp [h0, w1, w2, w3, w4, w5, w6, w7, w8, w9]
      · simp [h1, w1, w2, w3, w4, w5, w6, w7, w8, w9]
      · simp [h2, w1, w2, w3, w4, w5, w6, w7, w8, w9]
      · simp [h3, w1, w2, w3, w4, w5, w6, w7, w8, w9]
      · simp [h4, w1, w2, w3, w4, w5, w6, w7, w8, w9]
  by_cases h6 : u6 = v6
  case neg =>
    rw [evLoop_upto (fun i => ⟨slots 38 [(2, .ptr 0 0), (3, .ptr 1 0), (5, .sl 2 0 9 2), (6, .sl 3 0 9 2), (11, .v (.int .i64 9)), (12, .v (.int .i64 i))], [.cells [.v (.int .u64 u0), .v (.int .u64 u1), .v (.int .u64 u2), .v (.int .u64 u3), .v (.int .u64 u4), .v (.int .u64 u5), .v (.int .u64 u6), .v (.int .u64 u7), .v (.int .u64 u8), .lst nx cx], .cells [.v (.int .u64 v0), .v (.int .u64 v1), .v (.int .u64 v2), .v (.int .u64 v3), .v (.int .u64 v4), .v (.int .u64 v5), .v (.int .u64 v6), .v (.int .u64 v7), .v (.int .u64 v8), .lst ny cy], .cells [.v (.int .u64 1), .ptr 0 0, .v (.int .u64 4), .ptr 0 1, .v (.int .u64 5), .ptr 0 2, .v (.int .u64 6), .ptr 0 3, .v (.int .u64 7), .ptr 0 4, .v (.int .u64 8), .ptr 0 5, .v (.int .u64 9), .ptr 0 6, .v (.int .u64 11), .ptr 0 7, .v (.int .u64 14), .ptr 0 8], .cells [.v (.int .u64 1), .ptr 1 0, .v (.int .u64 4), .ptr 1 1, .v (.int .u64 5), .ptr 1 2, .v (.int .u64 6), .ptr 1 3, .v (.int .u64 7), .ptr 1 4, .v (.int .u64 8), .ptr 1 5, .v (.int .u64 9), .ptr 1 6, .v (.int .u64 11), .ptr 1 7, .v (.int .u64 14), .ptr 1 8]]⟩) 6 1000 ?_ ?_ (by omega)]
    · simp [h6]
    · simp
    · intro i hi
      rcases (by omega : i = 0 ∨ i = 1 ∨ i = 2 ∨ i = 3 ∨ i = 4 ∨ i = 5) with rfl | rfl | rfl | rfl | rfl | rfl
      · simp [h0, w1, w2, w3, w4, w5, w6, w7, w8, w9]
      · simp [h1, w1, w2, w3, w4, w5, w6, w7, w8, w9]
      · simp [h2, w1, w2, w3, w4, w5, w6, w7, w8, w9]
      · simp [h3, w1, w2, w3, w4, w5, w6, w7, w8, w9]
      · simp [h4, w1, w2, w3, w4, w5, w6, w7, w8, w9]
      · simp [h5, w1, w2, w3, w4, w5, w6, w7, w8, w9]
  by_cases h7 : u7 = v7
  case neg =>
    rw [evLoop_upto (fun i => ⟨slots 38 [(2, .ptr 0 0), (3, .ptr 1 0), (5, .sl 2 0 9 2), (6, .sl 3 0 9 2), (11, .v (.int .i64 9)), (12, .v (.int .i64 i))], [.cells [.v (.int .u64 u0), .v (.int .u64 u1), .v (.int .u64 u2), .v (.int .u64 u3), .v (.int .u64 u4), .v (.int .u64 u5), .v (.int .u64 u6), .v (.int .u64 u7), .v (.int .u64 u8), .lst nx cx], .cells [.v (.int .u64 v0), .v (.int .u64 v1), .v (.int .u64 v2), .v (.int .u64 v3), .v (.int .u64 v4), .v (.int .u64 v5), .v (.int .u64 v6), .v (.int .u64 v7), .v (.int .u64 v8), .lst ny cy], .cells [.v (.int .u64 1), .ptr 0 0, .v (.int .u64 4), .ptr 0 1, .v (.int .u64 5), .ptr 0 2, .v (.int .u64 6), .ptr 0 3, .v (.int .u64 7), .ptr 0 4, .v (.int .u64 8), .ptr 0 5, .v (.int .u64 9), .ptr 0 6, .v (.int .u64 11), .ptr 0 7, .v (.int .u64 14), .ptr 0 8], .cells [.v (.int .u64 1), .ptr 1 0, .v (.int .u64 4), .ptr 1 1, .v (.int .u64 5), .ptr 1 2, .v (.int .u64 6), .ptr 1 3, .v (.int .u64 7), .ptr 1 4, .v (.int .u64 8), .ptr 1 5, .v (.int .u64 9), .ptr 1 6, .v (.int .u64 11), .ptr 1 7, .v (.int .u64 14), .ptr 1 8]]⟩) 7 1000 ?_ ?_ (by omega)]
    · simp [h7]
    · simp
    · intro i hi
      rcases (by omega : i = 0 ∨ i = 1 ∨ i = 2 ∨ i = 3 ∨ i = 4 ∨ i = 5 ∨ i = 6) with rfl | rfl | rfl | rfl | rfl | rfl | rfl
      · simp [h0, w1, w2, w3, w4, w5, w6, w7, w8, w9]
      · simp [h1, w1, w2, w3, w4, w5, w6, w7, w8, w9]
      · simp [h2, w1, w2, w3, w4, w5, w6, w7, w8, w9]
      · simp [h3, w1, w2, w3, w4, w5, w6, w7, w8, w9]
      · simp [h4, w1, w2, w3, w4, w5, w6, w7, w8, w9]
      · simp [h5, w1, w2, w3, w4, w5, w6, w7, w8, w9]
      · simp [h6, w1, w2, w3, w4, w5, w6, w7, w8, w9]
  by_cases h8 : u8 = v8
  case neg =>
    rw [evLoop_upto (fun i => ⟨slots 38 [(2, .ptr 0 0), (3, .ptr 1 0), (5, .sl 2 0 9 2), (6, .sl 3 0 9 2), (11, .v (.int .i64 9)), (12, .v (.int .i64 i))], [.cells [.v (.int .u64 u0), .v (.int .u64 u1), .v (.int .u64 u2), .v (.int .u64 u3), .v (.int .u64 u4), .v (.int .u64 u5), .v (.int .u64 u6), .v (.int .u64 u7), .v (.int .u64 u8), .lst nx cx], .cells [.v (.int .u64 v0), .v (.int .u64 v1), .v (.int .u64 v2), .v (.int .u64 v3), .v (.int .u64 v4), .v (.int .u64 v5), .v (.int .u64 v6), .v (.int .u64 v7), .v (.int .u64 v8), .lst ny cy], .cells [.v (.int .u64 1), .ptr 0 0, .v (.int .u64 4), .ptr 0 1, .v (.int .u64 5), .ptr 0 2, .v (.int .u64 6), .ptr 0 3, .v (.int .u64 7), .ptr 0 4, .v (.int .u64 8), .ptr 0 5, .v (.int .u64 9), .ptr 0 6, .v (.int .u64 11), .ptr 0 7, .v (.int .u64 14), .ptr 0 8], .cells [.v (.int .u64 1), .ptr 1 0, .v (.int .u64 4), .ptr 1 1, .v (.int .u64 5), .ptr 1 2, .v (.int .u64 6), .ptr 1 3, .v (.int .u64 7), .ptr 1 4, .v (.int .u64 8), .ptr 1 5, .v (.int .u64 9), .ptr 1 6, .v (.int .u64 11), .ptr 1 7, .v (.int .u64 14), .ptr 1 8]]⟩) 8 1000 ?_ ?_ (by omega)]
    · simp [h8]
    · simp
    · intro i hi
      rcases (by omega : i = 0 ∨ i = 1 ∨ i = 2 ∨ i = 3 ∨ i = 4 ∨ i = 5 ∨ i = 6 ∨ i = 7) with rfl | rfl | rfl | rfl | rfl | rfl | rfl | rfl
      · simp [h0, w1, w2, w3, w4, w5, w6, w7, w8, w9]
      · simp [h1, w1, w2, w3, w4, w5, w6, w7, w8, w9]
      · simp [h2, w1, w2, w3, w4, w5, w6, w7, w8, w9]
      · simp [h3, w1, w2, w3, w4, w5, w6, w7, w8, w9]
      · simp [h4, w1, w2, w3, w4, w5, w6, w7, w8, w9]
      · simp [h5, w1, w2, w3, w4, w5, w6, w7, w8, w9]
      · simp [h6, w1, w2, w3, w4, w5, w6, w7, w8, w9]
      · simp [h7, w1, w2, w3, w4, w5, w6, w7, w8, w9]
  rw [evLoop_upto (fun i => ⟨slots 38 [(2, .ptr 0 0), (3, .ptr 1 0), (5, .sl 2 0 9 2), (6, .sl 3 0 9 2), (11, .v (.int .i64 9)), (12, .v (.int .i64 i))], [.cells [.v (.int .u64 u0), .v (.int .u64 u1), .v (.int .u64 u2), .v (.int .u64 u3), .v (.int .u64 u4), .v (.int .u64 u5), .v (.int .u64 u6), .v (.int .u64 u7), .v (.int .u64 u8), .lst nx cx], .cells [.v (.int .u64 v0), .v (.int .u64 v1), .v (.int .u64 v2), .v (.int .u64 v3), .v (.int .u64 v4), .v (.int .u64 v5), .v (.int .u64 v6), .v (.int .u64 v7), .v (.int .u64 v8), .lst ny cy], .cells [.v (.int .u64 1), .ptr 0 0, .v (.int .u64 4), .ptr 0 1, .v (.int .u64 5), .ptr 0 2, .v (.int .u64 6), .ptr 0 3, .v (.int .u64 7), .ptr 0 4, .v (.int .u64 8), .ptr 0 5, .v (.int .u64 9), .ptr 0 6, .v (.int .u64 11), .ptr 0 7, .v (.int .u64 14), .ptr 0 8], .cells [.v (.int .u64 1), .ptr 1 0, .v (.int .u64 4), .ptr 1 1, .v (.int .u64 5), .ptr 1 2, .v (.int .u64 6), .ptr 1 3, .v (.int .u64 7), .ptr 1 4, .v (.int .u64 8), .ptr 1 5, .v (.int .u64 9), .ptr 1 6, .v (.int .u64 11), .ptr 1 7, .v (.int .u64 14), .ptr 1 8]]⟩) 9 1000 ?_ ?_ (by omega)]
  · simp [hsx, hsy, h0, h1, h2, h3, h4, h5, h6, h7, h8, -evConvert]
  · simp
  · intro i hi
    rcases (by omega : i = 0 ∨ i = 1 ∨ i = 2 ∨ i = 3 ∨ i = 4 ∨ i = 5 ∨ i = 6 ∨ i = 7 ∨ i = 8) with rfl | rfl | rfl | rfl | rfl | rfl | rfl | rfl | rfl
    · simp [h0, w1, w2, w3, w4, w5, w6, w7, w8, w9]
    · simp [h1, w1, w2, w3, w4, w5, w6, w7, w8, w9]
    · simp [h2, w1, w2, w3, w4, w5, w6, w7, w8, w9]
    · simp [h3, w1, w2, w3, w4, w5, w6, w7, w8, w9]
    · simp [h4, w1, w2, w3, w4, w5, w6, w7, w8, w9]
    · simp [h5, w1, w2, w3, w4, w5, w6, w7, w8, w9]
    · simp [h6, w1, w2, w3, w4, w5, w6, w7, w8, w9]
    · simp [h7, w1, w2, w3, w4, w5, w6, w7, w8, w9]
    · simp [h8, w1, w2, w3, w4, w5, w6, w7, w8, w9]

theorem eq67 (u0 u1 u2 u3 u4 u5 u6 u7 u8 v0 v1 v2 v3 v4 v5 v6 v7 v8 : Int) : evEq tt 67 (.agg [.v (.int .u64 u0), .v (.int .u64 u1), .v (.int .u64 u2), .v (.int .u64 u3), .v (.int .u64 u4), .v (.int .u64 u5), .v (.int .u64 u6), .v (.int .u64 u7), .v (.int .u64 u8)]) (.agg [.v (.int .u64 v0), .v (.int .u64 v1), .v (.int .u64 v2), .v (.int .u64 v3), .v (.int .u64 v4), .v (.int .u64 v5), .v (.int .u64 v6), .v (.int .u64 v7), .v (.int .u64 v8)]) = some (decide (u0 = v0 ∧ u1 = v1 ∧ u2 = v2 ∧ u3 = v3 ∧ u4 = v4 ∧ u5 = v5 ∧ u6 = v6 ∧ u7 = v7 ∧ u8 = v8)) := by
  by_cases h0 : u0 = v0
  case neg => simp [h0]
  by_cases h1 : u1 = v1
  case neg => simp [h0, h1]
  by_cases h2 : u2 = v2
  case neg => simp [h0, h1, h2]
  by_cases h3 : u3 = v3
  case neg => simp [h0, h1, h2, h3]
  by_cases h4 : u4 = v4
  case neg => simp [h0, h1, h2, h3, h4]
  by_cases h5 : u5 = v5
  case neg => simp [h0, h1, h2, h3, h4, h5]
  by_cases h6 : u6 = v6
  case neg => simp [h0, h1, h2, h3, h4, h5, h6]
  by_cases h7 : u7 = v7
  case neg => simp [h0, h1, h2, h3, h4, h5, h6, h7]
  by_cases h8 : u8 = v8
  case neg => simp [h0, h1, h2, h3, h4, h5, h6, h7, h8]
  simp [h0, h1, h2, h3, h4, h5, h6, h7, h8]
end Go.Flat
