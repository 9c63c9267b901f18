/-
  vint.Take over the plain view of memory: what they answer. No condition but that bytes are bytes.
-/
import Derived.Test.YtldpbpgceplejaaFlatT
import Derived.Test.YtldpbpgceplejaaFlatW
import Derived.Test.YtldpbpgceplejaaFlatU
import Derived.Lib.EndianBits
import Derived.Laws.BitsLemmas
namespace Go.Flat
open Go.Proofs
set_option linter.unusedSimpArgs false
set_option linter.unusedVariables false
set_option maxRecDepth 100000
set_option maxHeartbeats 2000000

def KT : FuncId → Nat → List Nat
  | 110, 8 => [2, 3, 4, 26, 27, 28]
  | _, _ => []
theorem KT1 : KT 110 8 = [2, 3, 4, 26, 27, 28] := rfl
def a8 (n : Nat) : A := .v (.int .u8 n)
def FV (r : List Nat) (v : Nat) : Nat → Nat
  | 0 => v
  | i + 1 => FV r v i * 256 + r.getD i 0
theorem wrapi64 {x : Int} (h : -9223372036854775808 ≤ x) (h2 : x < 9223372036854775808) : IntKind.i64.wrap x = x := by
  unfold IntKind.wrap
  simp [IntKind.signed, IntKind.bits]
  omega
theorem wrapu64 {x : Int} (h : 0 ≤ x) (h2 : x < 18446744073709551616) : IntKind.u64.wrap x = x := by
  unfold IntKind.wrap
  simp [IntKind.signed, IntKind.bits]
  omega
theorem getD_lt {xs : List Nat} {b : Nat} (hx : ∀ n ∈ xs, n < b) (hb : 0 < b) (i : Nat) : xs.getD i 0 < b := by
  rw [List.getD_eq_getElem?_getD]
  cases h : xs[i]? with
  | none => exact hb
  | some n => exact hx n (List.mem_of_getElem? h)
theorem FV_lt {r : List Nat} (hr : ∀ n ∈ r, n < 256) {v : Nat} (hv : v < 64) : ∀ i, FV r v i < 64 * 256 ^ i
  | 0 => by simpa [FV] using hv
  | i + 1 => by
    have := FV_lt hr hv i
    have := getD_lt hr (by omega) i
    rw [FV, Nat.pow_succ]
    omega
theorem take_a8 {xs : List Nat} {i : Nat} (hi : i < xs.length) : List.take 1 (List.drop i (List.map a8 xs)) = [a8 (xs.getD i 0)] := by
  rw [List.drop_eq_getElem_cons (by simpa using hi)]
  simp [List.getD_eq_getElem?_getD, hi]

theorem take_none (B : Fns) (d : Nat) : evFn tt tb B KT 1000 (d + 1) 110 [.lst 0 []] [] = some (.tup [.v (.int .u64 0), .v (.int .i64 0), .v (.int .i64 3)], []) := by
  rw [call110]
  simp [Try.f110]

theorem and63 {x : Nat} (hx : x < 256) : bits .and .u8 (x : Int) 63 = ((x % 64 : Nat) : Int) := by
  have := (bits_nat .u8 8 (by decide) (fun n h0 h1 => by simp [IntKind.wrap, IntKind.signed, IntKind.bits]; omega) x 63 (by omega) (by omega)).1
  rw [show ((63 : Nat) : Int) = 63 from rfl] at this
  rw [this, show 63 = 2 ^ 6 - 1 from rfl, Nat.and_two_pow_sub_one_eq_mod]
theorem or_add {n c : Nat} (h1 : n < 72057594037927936) (h3 : c < 256) : bits .or .u64 (n * 256 : Int) (c : Int) = ((n * 256 + c : Nat) : Int) := by
  rw [bits_join .u64 64 (by decide) (fun n h0 h1 => wrapu64 h0 (by omega)) 8 _ _ (by omega) (by omega) (by omega) (by omega) (by omega) (by omega)]
  omega

/-- What the first byte says of how many there are. -/
theorem size_of {x : Nat} (hx : x < 256) : ∃ q : Nat, q ≤ 3 ∧ x / 64 = q ∧ (x : Int).fdiv 64 = q ∧ IntKind.i64.wrap (2 ^ min q 64) = ((2 ^ q : Nat) : Int) := by
  have h : x / 64 = 0 ∨ x / 64 = 1 ∨ x / 64 = 2 ∨ x / 64 = 3 := by omega
  have e : (x : Int).fdiv 64 = ((x / 64 : Nat) : Int) := by rw [Int.fdiv_eq_ediv_of_nonneg _ (by omega)]; omega
  rcases h with h | h | h | h
  · exact ⟨0, by omega, h, by rw [e, h], by decide⟩
  · exact ⟨1, by omega, h, by rw [e, h], by decide⟩
  · exact ⟨2, by omega, h, by rw [e, h], by decide⟩
  · exact ⟨3, by omega, h, by rw [e, h], by decide⟩

theorem take_short (B : Fns) (d : Nat) (x : Nat) (r : List Nat) (hx : x < 256) (hs : r.length + 1 < 2 ^ (x / 64)) :
    evFn tt tb B KT 1000 (d + 1) 110 [.lst (r.length + 1) (a8 x :: r.map a8)] [] = some (.tup [.v (.int .u64 0), .v (.int .i64 0), .v (.int .i64 3)], []) := by
  obtain ⟨q, hq, hq2, hf, hp⟩ := size_of hx
  rw [hq2] at hs
  generalize hk : 2 ^ q = k at *
  rw [call110]
  have h0 : ¬ ((r.length : Int) + 1 = 0) := by omega
  have h1 : (r.length : Int) + 1 < k := by omega
  have hb : ¬ ((q : Int) < 0) := by omega
  simp [Try.f110, h0, h1, a8, hf, hp, hb]

theorem take_ok (B : Fns) (d : Nat) (x : Nat) (r : List Nat) (hr : ∀ n ∈ r, n < 256) (hx : x < 256) (hs : ¬ r.length + 1 < 2 ^ (x / 64)) :
    evFn tt tb B KT 1000 (d + 1) 110 [.lst (r.length + 1) (a8 x :: r.map a8)] [] = some (.tup [.v (.int .u64 (FV r (x % 64) (2 ^ (x / 64) - 1))), .v (.int .i64 (2 ^ (x / 64) : Nat)), .v (.int .i64 0)], []) := by
  obtain ⟨q, hq, hq2, hf, hp⟩ := size_of hx
  rw [hq2] at hs ⊢
  have hk8 : 2 ^ q ≤ 8 := Nat.pow_le_pow_right (n := 2) (by decide) hq
  have hk1 : 1 ≤ 2 ^ q := Nat.one_le_two_pow
  generalize hk : 2 ^ q = k at *
  rw [call110]
  have h0 : ¬ ((r.length : Int) + 1 = 0) := by omega
  have h1 : ¬ (r.length : Int) + 1 < k := by omega
  have h2 : (k : Int) ≤ (r.length : Int) + 1 := by omega
  have h3 : (1 : Int) ≤ k := by omega
  have hb : ¬ ((q : Int) < 0) := by omega
  simp [Try.f110, h0, h1, h2, h3, a8, hf, hp, hb, and63 hx, KT1]
  have hm : IntKind.u64.wrap ((x : Int) % 64) = ((x % 64 : Nat) : Int) := by rw [wrapu64 (by omega) (by omega)]; omega
  have hl : min (k - 1) r.length = k - 1 := by omega
  rw [evLoop_for (fun i => ⟨slots 40 [(2, .v (.int .u64 (FV r (x % 64) i))), (3, .v (.int .i64 k)), (4, .v (.int .i64 0)), (26, .lst (k - 1) ((r.map a8).take (k - 1))), (27, .v (.int .i64 (k - 1 : Nat))), (28, .v (.int .i64 i))], []⟩) (k - 1)
    (.exit 0 ⟨slots 40 [(2, .v (.int .u64 (FV r (x % 64) (k - 1)))), (3, .v (.int .i64 k)), (4, .v (.int .i64 0)), (26, .lst (k - 1) ((r.map a8).take (k - 1))), (27, .v (.int .i64 (k - 1 : Nat))), (28, .v (.int .i64 (k - 1 : Nat))), (29, .v (.bool false))], []⟩) 1000 ?_ ?_ ?_ rfl (by omega)]
  · simp
  · simp [hm, FV]
  · intro i hi
    have hlt : 1 ≤ (k - 1) - i := by omega
    have hf1 := FV_lt hr (v := x % 64) (by omega) i
    have hp2 : 256 ^ i ≤ 256 ^ 6 := Nat.pow_le_pow_right (by decide) (by omega)
    have hf2 : FV r (x % 64) i < 18014398509481984 := by omega
    have hc := getD_lt hr (by omega) i
    have htk : List.take 1 (List.drop i (List.take (k - 1) (List.map a8 r))) = [a8 (r.getD i 0)] := by
      rw [List.drop_eq_getElem_cons (by simp; omega)]
      simp [List.getD_eq_getElem?_getD, show i < r.length by omega]
    have hF : FV r (x % 64) (i + 1) = FV r (x % 64) i * 256 + r.getD i 0 := rfl
    generalize FV r (x % 64) i = v at *
    generalize hcc : r.getD i 0 = c at *
    have hw1 : IntKind.u64.wrap ((v : Int) * 256) = (v : Int) * 256 := wrapu64 (by omega) (by omega)
    have hw2 : IntKind.u64.wrap (c : Int) = c := wrapu64 (by omega) (by omega)
    have hor : bits .or .u64 ((v : Int) * 256) (c : Int) = (v : Int) * 256 + c := by rw [or_add (by omega) hc]; omega
    have hnext : IntKind.i64.wrap ((i : Int) + 1) = i + 1 := wrapi64 (by omega) (by omega)
    simp [hi, hlt, hl, htk, a8, hw1, hw2, hor, hnext, hF]
  · simp

end Go.Flat
