/-
  The Reader's methods and the law's own functions, as contracts over the memory of the law. No condition but that bytes are bytes.
-/
import Derived.Test.YtkepkcddlphojaaReadsA
namespace Go.Flat
open Go.Proofs
set_option linter.unusedSimpArgs false
set_option linter.unusedVariables false
set_option maxRecDepth 100000
set_option maxHeartbeats 4000000
theorem take_drop8 (L : List Nat) (k : Nat) : List.take (L.length - k) (List.drop k (List.map a8 L)) = List.drop k (List.map a8 L) := List.take_of_length_le (by simp)
section
variable {K : FuncId → Nat → List Nat} {m d : Nat}

theorem r_fail (e : Int) (s s' : Rd) (hs : s.fine) : evFn tt (cut [28, 29] tb) B9 K m (d + 1) 57 [.ptr 0 0, .v (.int .i64 e)] (Hh s s' []) = some (.tup [], Hh (failN e s) s' []) := by
  rw [call_cut tb57 rfl]
  cases s with
  | good L => simp [Try.f57, Hh, lA_good, lA_bad, eN_good, eN_bad, failN]
  | bad e' =>
    have he : ¬ e' = 0 := hs
    simp [Try.f57, Hh, lA_good, lA_bad, eN_good, eN_bad, failN, he]
theorem w_fail (e : Int) (s s' : Rd) (R : List Ob) (hs : s'.fine) : evFn tt (cut [28, 29] tb) B9 K m (d + 1) 47 [.v (.int .i64 e), .ptr 2 0, .ptr 1 0] (Hh s s' R) = some (.tup [], Hh s (failN e s') R) := by
  rw [call_cut tb47 rfl]
  cases s' with
  | good L => simp [Try.f47, Hh, lA_good, lA_bad, eN_good, eN_bad, failN]
  | bad e' =>
    have he : ¬ e' = 0 := hs
    simp [Try.f47, Hh, lA_good, lA_bad, eN_good, eN_bad, failN, he]
theorem r_err (s s' : Rd) (R : List Ob) : evFn tt (cut [28, 29] tb) B9 K m (d + 1) 58 [.ptr 0 0] (Hh s s' R) = some (.v (.int .i64 (eN s)), Hh s s' R) := by
  rw [call_cut tb58 rfl]
  simp [Try.f58, Hh]
def lenN : Rd → Int
  | .good L => L.length
  | .bad _ => 0
theorem r_left (s s' : Rd) (R : List Ob) : evFn tt (cut [28, 29] tb) B9 K m (d + 1) 59 [.ptr 0 0] (Hh s s' R) = some (.v (.int .i64 (lenN s)), Hh s s' R) := by
  rw [call_cut tb59 rfl]
  cases s with
  | good L => simp [Try.f59, Hh, lA_good, lA_bad, lenN]
  | bad e => simp [Try.f59, Hh, lA_good, lA_bad, lenN]
theorem r_int (s s' : Rd) (hs : s.fine) : evFn tt (cut [28, 29] tb) B9 K m (d + 2) 51 [.ptr 0 0] (Hh s s' []) = some (.v (.int .u64 (intN s).1), Hh (intN s).2 s' []) := by
  rw [call_cut tb51 rfl]
  cases s with
  | good L =>
    have hk := k28 (K := K) (m := m) (d := d) L hs.1 (Hh (.good L) s' [])
    cases ht : tk L with
    | none =>
      have hf := r_fail (K := K) (m := m) (d := d) 3 (.good L) s' hs
      simp only [Hh, lA_good, lA_bad, eN_good, eN_bad, ht, failN] at hk hf
      simp [Try.f51, Hh, lA_good, lA_bad, eN_good, eN_bad, intN, ht, hk, hf]
    | some p =>
      obtain ⟨n, k⟩ := p
      have hb := tk_some hs.1 ht
      have h1 : (k : Int) ≤ L.length := by omega
      have h2 : (0 : Int) ≤ k := by omega
      simp only [Hh, lA_good, lA_bad, eN_good, eN_bad, ht] at hk
      simp [Try.f51, Hh, lA_good, lA_bad, eN_good, eN_bad, intN, ht, hk, h1, h2, take_drop8]
  | bad e =>
    have he : ¬ e = 0 := hs
    simp [Try.f51, Hh, lA_good, lA_bad, eN_good, eN_bad, intN, he]
theorem w_int (s s' : Rd) (R : List Ob) (hs : s'.fine) : evFn tt (cut [28, 29] tb) B9 K m (d + 2) 48 [.ptr 1 0, .ptr 2 0, .ptr 3 0] (Hh s s' R) = some (.v (.int .u64 (intN s').1), Hh s (intN s').2 R) := by
  rw [call_cut tb48 rfl]
  cases s' with
  | good L =>
    have hk := k29 (K := K) (m := m) (d := d) L hs.1 (Hh s (.good L) R)
    cases ht : tk L with
    | none =>
      have hf := w_fail (K := K) (m := m) (d := d) 3 s (.good L) R hs
      simp only [Hh, lA_good, lA_bad, eN_good, eN_bad, ht, failN] at hk hf
      simp [Try.f48, Hh, lA_good, lA_bad, eN_good, eN_bad, intN, ht, hk, hf]
    | some p =>
      obtain ⟨n, k⟩ := p
      have hb := tk_some hs.1 ht
      have h1 : (k : Int) ≤ L.length := by omega
      have h2 : (0 : Int) ≤ k := by omega
      have h3 : ¬ (k : Int) = 0 := by omega
      have h4 : ¬ k = 0 := by omega
      simp only [Hh, lA_good, lA_bad, eN_good, eN_bad, ht] at hk
      simp [Try.f48, Hh, lA_good, lA_bad, eN_good, eN_bad, intN, ht, hk, h1, h2, h3, h4, take_drop8]
  | bad e =>
    have he : ¬ e = 0 := hs
    have hk := k29_nil (K := K) (m := m) (d := d) (Hh s (.bad e) R)
    simp only [Hh, lA_bad, eN_bad] at hk
    simp [Try.f48, Hh, lA_good, lA_bad, eN_good, eN_bad, intN, he, hk]
theorem r_count (k : Int) (s s' : Rd) (hs : s.fine) (hk : k < 9223372036854775808) : evFn tt (cut [28, 29] tb) B9 K m (d + 3) 53 [.ptr 0 0, .v (.int .i64 k)] (Hh s s' []) = some (.v (.int .i64 (countN k s).1), Hh (countN k s).2 s' []) := by
  rw [call_cut tb53 rfl]
  have hi := r_int (K := K) (m := m) (d := d) s s' hs
  have hb := int_fine hs
  have hf := r_fail (K := K) (m := m) (d := d + 1) 2 (intN s).2 s' hb.1
  unfold countN
  generalize intN s = p at *
  obtain ⟨n, s1⟩ := p
  simp only at hi hb hf ⊢
  obtain ⟨mx, hm⟩ : ∃ mx, (if k < 0 then 0 else k) = mx := ⟨_, rfl⟩
  have hw : IntKind.u64.wrap mx = mx := wrapu64 (by split at hm <;> omega) (by split at hm <;> omega)
  rw [hm]
  have hw2 : IntKind.i64.wrap (n : Int) = n := wrapi64 (by omega) (by omega)
  by_cases h : (n : Int) ≤ mx
  · have h' : ¬ mx < (n : Int) := by omega
    simp [Try.f53, hi, hm, hw, hw2, h, h']
  · have h' : mx < (n : Int) := by omega
    simp [Try.f53, hi, hm, hw, hw2, h, h', hf]
theorem w_count (k : Int) (s s' : Rd) (R : List Ob) (hs : s'.fine) (hk : k < 9223372036854775808) : evFn tt (cut [28, 29] tb) B9 K m (d + 3) 49 [.v (.int .i64 k), .ptr 4 0, .ptr 3 0] (Hh s s' R) = some (.v (.int .i64 (countN k s').1), Hh s (countN k s').2 R) := by
  rw [call_cut tb49 rfl]
  have hi := w_int (K := K) (m := m) (d := d) s s' R hs
  have hb := int_fine hs
  have hf := w_fail (K := K) (m := m) (d := d + 1) 2 s (intN s').2 R hb.1
  unfold countN
  generalize intN s' = p at *
  obtain ⟨n, s1⟩ := p
  simp only at hi hb hf ⊢
  obtain ⟨mx, hm⟩ : ∃ mx, (if k < 0 then 0 else k) = mx := ⟨_, rfl⟩
  have hw : IntKind.u64.wrap mx = mx := wrapu64 (by split at hm <;> omega) (by split at hm <;> omega)
  rw [hm]
  have hw2 : IntKind.i64.wrap (n : Int) = n := wrapi64 (by omega) (by omega)
  simp only [Hh] at hi hf ⊢
  by_cases h : (n : Int) ≤ mx
  · have h' : ¬ mx < (n : Int) := by omega
    simp [Try.f49, hi, hm, hw, hw2, h, h']
  · have h' : mx < (n : Int) := by omega
    simp [Try.f49, hi, hm, hw, hw2, h, h', hf]
/-- What Bytes hands back: a new row, or none. -/
def bA (i : Nat) (k : Int) : Rd → A
  | .good L => if k < 0 ∨ (L.length : Int) < k then .v (.slice none 0 0) else .sl i 0 k.toNat 1
  | .bad _ => .v (.slice none 0 0)
def bO (k : Int) : Rd → List Ob
  | .good L => if k < 0 ∨ (L.length : Int) < k then [] else [.row ((L.take k.toNat).map a8)]
  | .bad _ => []
def cA (k : Int) : Rd → A
  | .good L => if k < 0 ∨ (L.length : Int) < k then .v (.slice none 0 0) else .lst k.toNat ((L.take k.toNat).map a8)
  | .bad _ => .v (.slice none 0 0)
theorem r_bytes (k : Int) (s s' : Rd) (hs : s.fine) : evFn tt (cut [28, 29] tb) B9 K m (d + 2) 54 [.ptr 0 0, .v (.int .i64 k)] (Hh s s' []) = some (bA 5 k s, Hh (bytesN k s).2 s' (bO k s)) := by
  rw [call_cut tb54 rfl]
  cases s with
  | bad e =>
    have he : ¬ e = 0 := hs
    simp [Try.f54, Hh, lA_good, lA_bad, eN_good, eN_bad, bytesN, bA, bO, he]
  | good L =>
    have hf := r_fail (K := K) (m := m) (d := d) 3 (.good L) s' hs
    simp only [Hh, lA_good, lA_bad, eN_good, eN_bad, failN] at hf
    by_cases h1 : k < 0
    · simp [Try.f54, Hh, lA_good, lA_bad, eN_good, eN_bad, bytesN, bA, bO, h1, hf]
    · by_cases h2 : (L.length : Int) < k
      · simp [Try.f54, Hh, lA_good, lA_bad, eN_good, eN_bad, bytesN, bA, bO, h1, h2, hf]
      · obtain ⟨n, rfl⟩ : ∃ n : Nat, k = n := ⟨k.toNat, by omega⟩
        have h3 : n ≤ L.length := by omega
        have h4 : (n : Int) ≤ L.length := by omega
        have h5 : n ≤ 140737488355328 := by have := hs.2; omega
        have hfr : ∀ h, freezeAll h (List.take n (List.map a8 L)) = some (List.take n (List.map a8 L), h) := fun h => by rw [← List.map_take]; exact freeze_a8 h _
        simp [Try.f54, Hh, lA_good, lA_bad, eN_good, eN_bad, bytesN, bA, bO, h1, h2, h3, h4, h5, take_drop8, hfr]
theorem w_bytes (k : Int) (s s' : Rd) (R : List Ob) (hs : s'.fine) : evFn tt (cut [28, 29] tb) B9 K m (d + 2) 50 [.v (.int .i64 k), .ptr 2 0, .ptr 1 0, .ptr 3 0] (Hh s s' R) = some (cA k s', Hh s (bytesN k s').2 R) := by
  rw [call_cut tb50 rfl]
  cases s' with
  | bad e =>
    have he : ¬ e = 0 := hs
    simp [Try.f50, Hh, lA_good, lA_bad, eN_good, eN_bad, bytesN, cA, he]
  | good L =>
    have hf := w_fail (K := K) (m := m) (d := d) 3 s (.good L) R hs
    simp only [Hh, lA_good, lA_bad, eN_good, eN_bad, failN] at hf
    by_cases h1 : k < 0
    · simp [Try.f50, Hh, lA_good, lA_bad, eN_good, eN_bad, bytesN, cA, h1, hf]
    · by_cases h2 : (L.length : Int) < k
      · simp [Try.f50, Hh, lA_good, lA_bad, eN_good, eN_bad, bytesN, cA, h1, h2, hf]
      · obtain ⟨n, rfl⟩ : ∃ n : Nat, k = n := ⟨k.toNat, by omega⟩
        have h3 : n ≤ L.length := by omega
        have h4 : (n : Int) ≤ L.length := by omega
        simp [Try.f50, Hh, lA_good, lA_bad, eN_good, eN_bad, bytesN, cA, h1, h2, h3, h4, take_drop8]
/-- Least: the number, if it has the fewest bytes. -/
def leastN (s : Rd) : Nat × Rd :=
  if eN (intN s).2 = 0 ∧ ¬ lenN s - lenN (intN s).2 = lenZ (intN s).1 then (0, failN 4 (intN s).2) else intN s
theorem least_fine {s : Rd} (h : s.fine) : (leastN s).2.fine := by
  unfold leastN
  split
  · exact fail_fine 4 (by decide) (int_fine h).1
  · exact (int_fine h).1
theorem len_le {s : Rd} (h : s.fine) : 0 ≤ lenN s ∧ lenN s ≤ 200 := by
  cases s with
  | good L => exact ⟨Int.natCast_nonneg _, by have := h.2; simp only [lenN]; omega⟩
  | bad e => exact ⟨Int.le_refl _, by simp only [lenN]; decide⟩
theorem r_least (s s' : Rd) (hs : s.fine) : evFn tt (cut [28, 29] tb) B9 K m (d + 3) 52 [.ptr 0 0] (Hh s s' []) = some (.v (.int .u64 (leastN s).1), Hh (leastN s).2 s' []) := by
  rw [call_cut tb52 rfl]
  have hi := r_int (K := K) (m := m) (d := d) s s' hs
  have hl := r_left (K := K) (m := m) (d := d + 1) s s' []
  have hb := int_fine hs
  have hf := r_fail (K := K) (m := m) (d := d + 1) 4 (intN s).2 s' hb.1
  have he := r_err (K := K) (m := m) (d := d + 1) (intN s).2 s' []
  have hl2 := r_left (K := K) (m := m) (d := d + 1) (intN s).2 s' []
  have hn := len22c [28, 29] rfl B9 K m (d + 1) (intN s).1 (Hh (intN s).2 s' [])
  have b1 := len_le hs
  have b2 := len_le hb.1
  have hw : IntKind.i64.wrap (lenN s - lenN (intN s).2) = lenN s - lenN (intN s).2 := wrapi64 (by omega) (by omega)
  unfold leastN
  generalize intN s = p at *
  obtain ⟨n, s1⟩ := p
  simp only at hi hb hf he hl2 hn hw ⊢
  by_cases h1 : eN s1 = 0
  · by_cases h2 : lenN s - lenN s1 = lenZ n
    · rw [h2] at hw
      simp [Try.f52, hi, hl, he, hl2, hn, hw, h1, h2]
    · simp [Try.f52, hi, hl, he, hl2, hn, hw, h1, h2, hf]
  · simp [Try.f52, undef, hi, hl, he, hl2, hn, hw, h1]
theorem r_byte (s s' : Rd) (hs : s.fine) : evFn tt (cut [28, 29] tb) B9 K m (d + 3) 55 [.ptr 0 0] (Hh s s' []) = some (.v (.int .u8 (match (bytesN 1 s).1 with | x :: _ => (x : Int) | [] => 0)), Hh (bytesN 1 s).2 s' []) := by
  rw [call_cut tb55 rfl]
  have hi := r_bytes (K := K) (m := m) (d := d) 1 s s' hs
  cases s with
  | bad e =>
    simp only [bytesN, bA, bO] at hi ⊢
    simp [Try.f55, hi]
  | good L =>
    cases L with
    | nil =>
      simp only [bytesN, bA, bO] at hi ⊢
      simp at hi
      simp [Try.f55, hi]
    | cons x r =>
      simp only [bytesN, bA, bO] at hi ⊢
      have h1 : ¬ ((r.length : Int) + 1 < 1) := by omega
      simp [h1, Hh, a8] at hi
      simp [Try.f55, Hh, hi, h1, a8]
theorem r_long (k : Int) (s s' : Rd) (hs : s.fine) (hk : k < 9223372036854775808) : evFn tt (cut [28, 29] tb) B9 K m (d + 4) 56 [.ptr 0 0, .v (.int .i64 k)] (Hh s s' []) =
    some (bA 5 (countN k s).1 (countN k s).2, Hh (bytesN (countN k s).1 (countN k s).2).2 s' (bO (countN k s).1 (countN k s).2)) := by
  rw [call_cut tb56 rfl]
  have hc := r_count (K := K) (m := m) (d := d) k s s' hs hk
  have hf := count_fine k hs
  have hb := r_bytes (K := K) (m := m) (d := d + 1) (countN k s).1 (countN k s).2 s' hf
  generalize countN k s = p at *
  obtain ⟨n, s1⟩ := p
  simp only at hc hb ⊢
  cases s1 with
  | bad e =>
    simp only [bytesN, bA, bO] at hb ⊢
    simp [Try.f56, hc, hb]
  | good L =>
    by_cases h : (n : Int) < 0 ∨ (L.length : Int) < n
    · simp only [bytesN, bA, bO, if_pos h] at hb ⊢
      simp [Try.f56, hc, hb]
    · simp only [bytesN, bA, bO, if_neg h] at hb ⊢
      simp only [Hh, lA_good, eN_good] at hc hb ⊢
      simp [Try.f56, hc, hb]
def endN : Rd → Rd
  | .good [] => .good []
  | .good (_ :: _) => .bad 24
  | .bad e => .bad e
theorem r_end (s s' : Rd) (hs : s.fine) : evFn tt (cut [28, 29] tb) B9 K m (d + 2) 60 [.ptr 0 0] (Hh s s' []) = some (.v (.int .i64 (eN (endN s))), Hh (endN s) s' []) := by
  rw [call_cut tb60 rfl]
  have he := r_err (K := K) (m := m) (d := d) s s' []
  have hl := r_left (K := K) (m := m) (d := d) s s' []
  have hf := r_fail (K := K) (m := m) (d := d) 24 s s' hs
  have he2 := r_err (K := K) (m := m) (d := d) (failN 24 s) s' []
  cases s with
  | bad e =>
    have h0 : ¬ e = 0 := hs
    simp only [endN, failN, eN_bad, lenN] at he hl hf he2 ⊢
    simp [Try.f60, undef, he, hl, hf, he2, h0]
  | good L =>
    cases L with
    | nil =>
      simp only [endN, failN, eN_good, eN_bad, lenN] at he hl hf he2 ⊢
      simp at hl
      simp [Try.f60, he, hl, hf, he2]
    | cons x r =>
      simp only [endN, failN, eN_good, eN_bad, lenN] at he hl hf he2 ⊢
      have hp : (0 : Int) < (x :: r).length := by simp
      simp [Try.f60, he, hl, hf, he2, hp]
end
end Go.Flat
