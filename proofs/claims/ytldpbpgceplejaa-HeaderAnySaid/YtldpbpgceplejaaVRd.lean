/-
  The Reader of layer 1 over the plain view of memory: its methods, over the reader alone. No condition but that bytes are bytes.
-/
import Derived.Test.YtldpbpgceplejaaVStr
import Derived.Test.YtldpbpgceplejaaFlatV
namespace Go.Flat
open Go.Proofs
set_option linter.unusedSimpArgs false
set_option linter.unusedVariables false
set_option maxRecDepth 100000
set_option maxHeartbeats 4000000

noncomputable def BT : Fns := nilFns (liftFns (pick [110] (evFn tt tb noFns KT 1000 9) noFns))
theorem BT_sound : Sound Try.prog BT := nilFns_sound (liftFns_sound (pick_sound (evs_sound (noFns_sound _) KT 1000 9) (noFns_sound _)))

/-- How a reader is: so many bytes are left, or an error. -/
inductive Rd
  | good (L : List Nat)
  | bad (e : Int)
def lA : Rd → A
  | .good L => .lst L.length (L.map a8)
  | .bad _ => .v (.slice none 0 0)
def eN : Rd → Int
  | .good _ => 0
  | .bad e => e
theorem lA_good (L : List Nat) : lA (.good L) = .lst L.length (L.map a8) := rfl
theorem lA_bad (e : Int) : lA (.bad e) = .v (.slice none 0 0) := rfl
theorem eN_good (L : List Nat) : eN (.good L) = 0 := rfl
theorem eN_bad (e : Int) : eN (.bad e) = e := rfl
@[simp] theorem ids_lA (s : Rd) : idsA (lA s) = [] := by cases s <;> rfl
@[simp] theorem ren_lA (sel : List Nat) (s : Rd) : renA sel (lA s) = some (lA s) := by cases s <;> rfl
@[simp] theorem un_lA (f : Nat → Nat) (s : Rd) : unA f (lA s) = lA s := by cases s <;> rfl
def Rd.fine : Rd → Prop
  | .good L => (∀ n ∈ L, n < 256) ∧ L.length ≤ 4000
  | .bad e => e ≠ 0
abbrev rd (s : Rd) : Ob := .cells [lA s, .v (.int .i64 (eN s))]

def tk : List Nat → Option (Nat × Nat)
  | [] => none
  | x :: r => if r.length + 1 < 2 ^ (x / 64) then none else some (FV r (x % 64) (2 ^ (x / 64) - 1), 2 ^ (x / 64))
theorem tk_some {L : List Nat} {n k : Nat} (hL : ∀ b ∈ L, b < 256) (h : tk L = some (n, k)) : 1 ≤ k ∧ k ≤ 8 ∧ k ≤ L.length ∧ n < 4611686018427387904 := by
  cases L with
  | nil => cases h
  | cons x r =>
    simp only [tk] at h
    split at h
    · cases h
    · rename_i hs
      obtain ⟨rfl, rfl⟩ := Prod.mk.inj (Option.some.inj h)
      have hx := hL x List.mem_cons_self
      obtain ⟨q, hq, hq2, -, -⟩ := size_of hx
      rw [hq2] at hs ⊢
      have hk8 : 2 ^ q ≤ 2 ^ 3 := Nat.pow_le_pow_right (by decide) hq
      have hk1 : 1 ≤ 2 ^ q := Nat.one_le_two_pow
      have hf := FV_lt (r := r) (fun b hb => hL b (List.mem_cons_of_mem _ hb)) (v := x % 64) (by omega) (2 ^ q - 1)
      have hp : 256 ^ (2 ^ q - 1) ≤ 256 ^ 7 := Nat.pow_le_pow_right (by decide) (by omega)
      simp only [List.length_cons]
      refine ⟨hk1, by omega, by omega, ?_⟩
      omega
theorem take_drop8 (L : List Nat) (k : Nat) : List.take (L.length - k) (List.drop k (List.map a8 L)) = List.drop k (List.map a8 L) := List.take_of_length_le (by simp)
theorem freeze_a8 (h : List Ob) : ∀ L : List Nat, freezeAll h (L.map a8) = some (L.map a8, h)
  | [] => rfl
  | x :: L => by
    rw [List.map_cons, freezeAll]
    have : freeze h (a8 x) = some (a8 x, h) := rfl
    rw [this]
    dsimp only
    rw [freeze_a8 h L]

section
variable {K : FuncId → Nat → List Nat} {m d : Nat}
theorem k_take (L : List Nat) (hL : ∀ b ∈ L, b < 256) (H : List Ob) : evFn tt (cut [110] tb) BT K m (d + 1) 110 [.lst L.length (L.map a8)] H =
    some (.tup (match tk L with | some (n, k) => [.v (.int .u64 n), .v (.int .i64 k), .v (.int .i64 0)] | none => [.v (.int .u64 0), .v (.int .i64 0), .v (.int .i64 3)]), H) := by
  have h : evFn tt tb noFns KT 1000 9 110 [.lst L.length (L.map a8)] [] = some (.tup (match tk L with | some (n, k) => [.v (.int .u64 n), .v (.int .i64 k), .v (.int .i64 0)] | none => [.v (.int .u64 0), .v (.int .i64 0), .v (.int .i64 3)]), []) := by
    cases L with
    | nil => exact take_none noFns 8
    | cons x r =>
      have hx := hL x List.mem_cons_self
      by_cases hs : r.length + 1 < 2 ^ (x / 64)
      · simp only [tk, if_pos hs]; exact take_short noFns 8 x r hx hs
      · simp only [tk, if_neg hs]; exact take_ok noFns 8 x r (fun b hb => hL b (List.mem_cons_of_mem _ hb)) hx hs
  rw [call_known rfl]
  cases ht : tk L with
  | none => rw [ht] at h; simp [BT, nilFns, pick, h]
  | some p => rw [ht] at h; simp [BT, nilFns, pick, h]
end

def failN (e : Int) : Rd → Rd
  | .good _ => .bad e
  | .bad e' => .bad e'
def intN : Rd → Nat × Rd
  | .bad e => (0, .bad e)
  | .good L => match tk L with | none => (0, .bad 3) | some (n, k) => (n, .good (L.drop k))
def countN (k : Int) (s : Rd) : Nat × Rd := if ((intN s).1 : Int) ≤ (if k < 0 then 0 else k) then intN s else (0, failN 2 (intN s).2)
def bytesN (k : Int) : Rd → List Nat × Rd
  | .bad e => ([], .bad e)
  | .good L => if k < 0 ∨ (L.length : Int) < k then ([], .bad 3) else (L.take k.toNat, .good (L.drop k.toNat))
def lenN : Rd → Int
  | .good L => L.length
  | .bad _ => 0
def byteN (s : Rd) : Nat := match (bytesN 1 s).1 with | x :: _ => x | [] => 0
def longN (k : Int) (s : Rd) : List Nat × Rd := bytesN (countN k s).1 (countN k s).2
def endN : Rd → Rd
  | .good [] => .good []
  | .good (_ :: _) => .bad 24
  | .bad e => .bad e

theorem fail_fine {s : Rd} (e : Int) (he : e ≠ 0) (h : s.fine) : (failN e s).fine := by
  cases s with
  | good L => exact he
  | bad e' => exact h
theorem int_fine {s : Rd} (h : s.fine) : (intN s).2.fine ∧ (intN s).1 < 4611686018427387904 := by
  cases s with
  | bad e => exact ⟨h, (by decide : (0 : Nat) < 4611686018427387904)⟩
  | good L =>
    simp only [intN]
    cases ht : tk L with
    | none => exact ⟨(by decide : (3 : Int) ≠ 0), (by decide : (0 : Nat) < 4611686018427387904)⟩
    | some p =>
      obtain ⟨n, k⟩ := p
      have := tk_some h.1 ht
      exact ⟨⟨fun b hb => h.1 b (List.mem_of_mem_drop hb), by rw [List.length_drop]; have := h.2; omega⟩, this.2.2.2⟩
theorem count_fine {s : Rd} (k : Int) (h : s.fine) : (countN k s).2.fine := by
  unfold countN
  generalize (if k < 0 then (0 : Int) else k) = mx
  split
  · exact (int_fine h).1
  · exact fail_fine 2 (by decide) (int_fine h).1
theorem count_le {s : Rd} (k : Int) : ((countN k s).1 : Int) ≤ (if k < 0 then 0 else k) := by
  unfold countN
  generalize hm : (if k < 0 then (0 : Int) else k) = mx
  split
  · assumption
  · dsimp only; split at hm <;> omega
theorem bytes_fine {s : Rd} (k : Int) (h : s.fine) : (bytesN k s).2.fine := by
  cases s with
  | bad e => exact h
  | good L =>
    simp only [bytesN]
    split
    · exact fun h => by cases h
    · exact ⟨fun b hb => h.1 b (List.mem_of_mem_drop hb), by simp only [List.length_drop]; have := h.2; omega⟩
theorem bytes_lt {s : Rd} (k : Int) (h : s.fine) : (∀ b ∈ (bytesN k s).1, b < 256) ∧ (bytesN k s).1.length ≤ 4000 := by
  cases s with
  | bad e => exact ⟨fun b hb => (by cases hb), Nat.zero_le _⟩
  | good L =>
    simp only [bytesN]
    split
    · exact ⟨fun b hb => (by cases hb), Nat.zero_le _⟩
    · exact ⟨fun b hb => h.1 b (List.mem_of_mem_take hb), by simp only [List.length_take]; have := h.2; omega⟩
theorem byte_lt {s : Rd} (h : s.fine) : byteN s < 256 := by
  have := (bytes_lt 1 h).1
  unfold byteN
  split
  · rename_i x r hx; exact this x (by rw [hx]; exact List.mem_cons_self)
  · decide
theorem len_le {s : Rd} (h : s.fine) : 0 ≤ lenN s ∧ lenN s ≤ 4000 := by
  cases s with
  | good L => exact ⟨Int.natCast_nonneg _, by have := h.2; simp only [lenN]; omega⟩
  | bad e => exact ⟨Int.le_refl _, by simp only [lenN]; decide⟩

section
variable {K : FuncId → Nat → List Nat} {m d : Nat}
theorem r_fail (e : Int) (s : Rd) (hs : s.fine) : evFn tt (cut [110] tb) BT K m (d + 1) 86 [.ptr 0 0, .v (.int .i64 e)] [rd s] = some (.tup [], [rd (failN e s)]) := by
  rw [call_cut tb86 rfl]
  cases s with
  | good L => simp [lA_good, lA_bad, eN_good, eN_bad, Try.f86, rd, failN]
  | bad e' =>
    have he : ¬ e' = 0 := hs
    simp [lA_good, lA_bad, eN_good, eN_bad, Try.f86, rd, failN, he]
theorem r_err (s : Rd) : evFn tt (cut [110] tb) BT K m (d + 1) 64 [.ptr 0 0] [rd s] = some (.v (.int .i64 (eN s)), [rd s]) := by
  rw [call_cut tb64 rfl]
  simp [lA_good, lA_bad, eN_good, eN_bad, Try.f64, rd]
theorem r_left (s : Rd) : evFn tt (cut [110] tb) BT K m (d + 1) 65 [.ptr 0 0] [rd s] = some (.v (.int .i64 (lenN s)), [rd s]) := by
  rw [call_cut tb65 rfl]
  cases s with
  | good L => simp [lA_good, lA_bad, eN_good, eN_bad, Try.f65, rd, lenN]
  | bad e => simp [lA_good, lA_bad, eN_good, eN_bad, Try.f65, rd, lenN]
theorem r_read (L : List Nat) : evFn tt (cut [110] tb) BT K m (d + 1) 63 [.lst L.length (L.map a8)] [] = some (.ptr 0 0, [rd (.good L)]) := by
  rw [call_cut tb63 rfl]
  simp [lA_good, lA_bad, eN_good, eN_bad, Try.f63, rd]
theorem r_int (s : Rd) (hs : s.fine) : evFn tt (cut [110] tb) BT K m (d + 2) 66 [.ptr 0 0] [rd s] = some (.v (.int .u64 (intN s).1), [rd (intN s).2]) := by
  rw [call_cut tb66 rfl]
  cases s with
  | good L =>
    have hk := k_take (K := K) (m := m) (d := d) L hs.1 [rd (.good L)]
    cases ht : tk L with
    | none =>
      have hf := r_fail (K := K) (m := m) (d := d) 3 (.good L) hs
      simp only [rd, lA_good, lA_bad, eN_good, eN_bad, ht, failN] at hk hf
      simp [lA_good, lA_bad, eN_good, eN_bad, Try.f66, rd, intN, ht, hk, hf]
    | some p =>
      obtain ⟨n, k⟩ := p
      have hb := tk_some hs.1 ht
      have h1 : (k : Int) ≤ L.length := by omega
      have h2 : (0 : Int) ≤ k := by omega
      simp only [rd, lA_good, lA_bad, eN_good, eN_bad, ht] at hk
      simp [lA_good, lA_bad, eN_good, eN_bad, Try.f66, rd, intN, ht, hk, h1, h2, take_drop8]
  | bad e =>
    have he : ¬ e = 0 := hs
    simp [lA_good, lA_bad, eN_good, eN_bad, Try.f66, rd, intN, he]
theorem r_count (k : Int) (s : Rd) (hs : s.fine) (hk : k < 9223372036854775808) : evFn tt (cut [110] tb) BT K m (d + 3) 111 [.ptr 0 0, .v (.int .i64 k)] [rd s] = some (.v (.int .i64 (countN k s).1), [rd (countN k s).2]) := by
  rw [call_cut tb111 rfl]
  have hi := r_int (K := K) (m := m) (d := d) s hs
  have hb := int_fine hs
  have hf := r_fail (K := K) (m := m) (d := d + 1) 2 (intN s).2 hb.1
  unfold countN
  generalize intN s = p at *
  obtain ⟨n, s1⟩ := p
  simp only at hi hb hf ⊢
  obtain ⟨mx, hm⟩ : ∃ mx, (if k < 0 then 0 else k) = mx := ⟨_, rfl⟩
  have hw : IntKind.u64.wrap mx = mx := wrapu64 (by split at hm <;> omega) (by split at hm <;> omega)
  rw [hm]
  have hw2 : IntKind.i64.wrap (n : Int) = n := wrapi64 (by omega) (by omega)
  by_cases h : (n : Int) ≤ mx
  · have h' : ¬ mx < (n : Int) := by omega
    simp [lA_good, lA_bad, eN_good, eN_bad, Try.f111, hi, hm, hw, hw2, h, h']
  · have h' : mx < (n : Int) := by omega
    simp [lA_good, lA_bad, eN_good, eN_bad, Try.f111, hi, hm, hw, hw2, h, h', hf]
/-- What Bytes hands back: a new row, or none. -/
def bA (i : Nat) (k : Int) : Rd → A
  | .good L => if k < 0 ∨ (L.length : Int) < k then .v (.slice none 0 0) else .sl i 0 k.toNat 1
  | .bad _ => .v (.slice none 0 0)
def bO (k : Int) : Rd → List Ob
  | .good L => if k < 0 ∨ (L.length : Int) < k then [] else [.row ((L.take k.toNat).map a8)]
  | .bad _ => []
theorem r_bytes0 (k : Int) (s : Rd) (hs : s.fine) : evFn tt (cut [110] tb) BT K m (d + 2) 85 [.ptr 0 0, .v (.int .i64 k)] [rd s] = some (bA 1 k s, rd (bytesN k s).2 :: bO k s) := by
  rw [call_cut tb85 rfl]
  cases s with
  | bad e =>
    have he : ¬ e = 0 := hs
    simp [lA_good, lA_bad, eN_good, eN_bad, Try.f85, rd, bytesN, bA, bO, he]
  | good L =>
    have hf := r_fail (K := K) (m := m) (d := d) 3 (.good L) hs
    simp only [rd, lA_good, lA_bad, eN_good, eN_bad, failN] at hf
    by_cases h1 : k < 0
    · simp [lA_good, lA_bad, eN_good, eN_bad, Try.f85, rd, bytesN, bA, bO, h1, hf]
    · by_cases h2 : (L.length : Int) < k
      · simp [lA_good, lA_bad, eN_good, eN_bad, Try.f85, rd, bytesN, bA, bO, h1, h2, hf]
      · obtain ⟨n, rfl⟩ : ∃ n : Nat, k = n := ⟨k.toNat, by omega⟩
        have h3 : n ≤ L.length := by omega
        have h4 : (n : Int) ≤ L.length := by omega
        have h5 : n ≤ 140737488355328 := by have := hs.2; omega
        have hfr : ∀ h, freezeAll h (List.take n (List.map a8 L)) = some (List.take n (List.map a8 L), h) := fun h => by rw [← List.map_take]; exact freeze_a8 h _
        simp [lA_good, lA_bad, eN_good, eN_bad, Try.f85, rd, bytesN, bA, bO, h1, h2, h3, h4, h5, take_drop8, hfr]
theorem r_byte (s : Rd) (hs : s.fine) : evFn tt (cut [110] tb) BT K m (d + 3) 120 [.ptr 0 0] [rd s] = some (.v (.int .u8 (byteN s)), [rd (bytesN 1 s).2]) := by
  rw [call_cut tb120 rfl]
  have hi := r_bytes0 (K := K) (m := m) (d := d) 1 s hs
  unfold byteN
  cases s with
  | bad e =>
    simp only [bytesN, bA, bO] at hi ⊢
    simp [lA_good, lA_bad, eN_good, eN_bad, Try.f120, hi]
  | good L =>
    cases L with
    | nil =>
      simp only [bytesN, bA, bO] at hi ⊢
      simp [lA_good, lA_bad, eN_good, eN_bad] at hi
      simp [lA_good, lA_bad, eN_good, eN_bad, Try.f120, hi]
    | cons x r =>
      simp only [bytesN, bA, bO] at hi ⊢
      have h1 : ¬ ((r.length : Int) + 1 < 1) := by omega
      simp [lA_good, lA_bad, eN_good, eN_bad, h1, rd, a8] at hi
      simp [lA_good, lA_bad, eN_good, eN_bad, Try.f120, rd, hi, h1, a8]
theorem out_bytes (k : Int) (s : Rd) (hs : s.fine) (g : FuncId) (args : List A) (h0 : List Ob) (hh : h0.length = 1) (F : Fns) (he : F g args h0 = some (bA 1 k s, rd (bytesN k s).2 :: bO k s)) :
    outFns F g args h0 = some (.lst (bytesN k s).1.length ((bytesN k s).1.map a8), [rd (bytesN k s).2]) := by
  unfold outFns
  rw [he]
  cases s with
  | bad e => simp [lA_good, lA_bad, eN_good, eN_bad, bA, bO, bytesN, hh]
  | good L =>
    by_cases h1 : k < 0 ∨ (L.length : Int) < k
    · simp [lA_good, lA_bad, eN_good, eN_bad, bA, bO, bytesN, hh, h1]
    · obtain ⟨n, rfl⟩ : ∃ n : Nat, k = n := ⟨k.toNat, by omega⟩
      have h3 : n ≤ L.length := by omega
      have h4 : ¬ L.length < n := by omega
      have h5 : ¬ (n : Int) < 0 := by omega
      simp [lA_good, lA_bad, eN_good, eN_bad, bA, bO, bytesN, hh, h3, h4, h5, List.take_take]
theorem r_bytes (k : Int) (s : Rd) (hs : s.fine) : outFns (evFn tt (cut [110] tb) BT K m (d + 2)) 85 [.ptr 0 0, .v (.int .i64 k)] [rd s] = some (.lst (bytesN k s).1.length ((bytesN k s).1.map a8), [rd (bytesN k s).2]) :=
  out_bytes k s hs _ _ _ rfl _ (r_bytes0 k s hs)
theorem r_long0 (k : Int) (s : Rd) (hs : s.fine) (hk : k < 9223372036854775808) : evFn tt (cut [110] tb) BT K m (d + 4) 67 [.ptr 0 0, .v (.int .i64 k)] [rd s] =
    some (bA 1 (countN k s).1 (countN k s).2, rd (bytesN (countN k s).1 (countN k s).2).2 :: bO (countN k s).1 (countN k s).2) := by
  rw [call_cut tb67 rfl]
  have hc := r_count (K := K) (m := m) (d := d) k s hs hk
  have hf := count_fine k hs
  have hb := r_bytes0 (K := K) (m := m) (d := d + 1) (countN k s).1 (countN k s).2 hf
  generalize countN k s = p at *
  obtain ⟨n, s1⟩ := p
  simp only at hc hb ⊢
  cases s1 with
  | bad e =>
    simp only [bytesN, bA, bO] at hb ⊢
    simp [lA_good, lA_bad, eN_good, eN_bad, Try.f67, hc, hb]
  | good L =>
    by_cases h : (n : Int) < 0 ∨ (L.length : Int) < n
    · simp only [bytesN, bA, bO, if_pos h] at hb ⊢
      simp [lA_good, lA_bad, eN_good, eN_bad, Try.f67, hc, hb]
    · simp only [bytesN, bA, bO, if_neg h] at hb ⊢
      simp [lA_good, lA_bad, eN_good, eN_bad, Try.f67, hc, hb]
theorem r_long (k : Int) (s : Rd) (hs : s.fine) (hk : k < 9223372036854775808) : outFns (evFn tt (cut [110] tb) BT K m (d + 4)) 67 [.ptr 0 0, .v (.int .i64 k)] [rd s] = some (.lst (longN k s).1.length ((longN k s).1.map a8), [rd (longN k s).2]) :=
  out_bytes _ _ (count_fine k hs) _ _ _ rfl _ (r_long0 k s hs hk)
theorem r_end (s : Rd) (hs : s.fine) : evFn tt (cut [110] tb) BT K m (d + 2) 89 [.ptr 0 0] [rd s] = some (.v (.int .i64 (eN (endN s))), [rd (endN s)]) := by
  rw [call_cut tb89 rfl]
  have he := r_err (K := K) (m := m) (d := d) s
  have hl := r_left (K := K) (m := m) (d := d) s
  have hf := r_fail (K := K) (m := m) (d := d) 24 s hs
  have he2 := r_err (K := K) (m := m) (d := d) (failN 24 s)
  cases s with
  | bad e =>
    have h0 : ¬ e = 0 := hs
    simp only [endN, failN, eN_bad, lenN] at he hl hf he2 ⊢
    simp [lA_good, lA_bad, eN_good, eN_bad, Try.f89, undef, he, hl, hf, he2, h0]
  | good L =>
    cases L with
    | nil =>
      simp only [endN, failN, eN_good, eN_bad, lenN] at he hl hf he2 ⊢
      simp at hl
      simp [lA_good, lA_bad, eN_good, eN_bad, Try.f89, he, hl, hf, he2]
    | cons x r =>
      simp only [endN, failN, eN_good, eN_bad, lenN] at he hl hf he2 ⊢
      have hp : (0 : Int) < (x :: r).length := by simp
      simp [lA_good, lA_bad, eN_good, eN_bad, Try.f89, he, hl, hf, he2, hp]
end

/-! ### in whatever memory -/
noncomputable def BR0 : Fns := pick [85, 67] (outFns (evFn tt (cut [110] tb) BT KT 1000 9)) (pick [63, 64, 65, 66, 86, 89, 111, 120] (evFn tt (cut [110] tb) BT KT 1000 9) noFns)
noncomputable def BR : Fns := softFns (nilFns (liftFns BR0))
theorem BR_sound : Sound Try.prog BR := by
  have h := evs_sound_cut BT_sound [110] KT 1000 9
  exact softFns_sound (nilFns_sound (liftFns_sound (pick_sound (outFns_sound h) (pick_sound h (noFns_sound _)))))
def LR : List FuncId := [63, 64, 65, 66, 86, 89, 111, 120, 85, 67]

theorem BR_one {g : FuncId} {rest : List A} {xs ys : List A} {r : A} (ho : idsOb (.cells xs) = []) (hn : rest.map nilL = rest) (hsoft : ∀ H, softArgs H rest = (rest, H)) (hr : idsL rest = []) (h1 : idsA r = []) (h2 : idsOb (.cells ys) = []) (hs : BR0 g (.ptr 0 0 :: rest) [.cells xs] = some (r, [.cells ys])) (pre R : List Ob) :
    BR g (.ptr pre.length 0 :: rest) (pre ++ .cells xs :: R) = some (r, pre ++ .cells ys :: R) := by
  unfold BR softFns nilFns
  have e1 : softArgs (pre ++ .cells xs :: R) (.ptr pre.length 0 :: rest) = (.ptr pre.length 0 :: rest, pre ++ .cells xs :: R) := by
    simp only [softArgs, softArg, freezeArg, freeze, flat, Bool.false_eq_true, if_false, hsoft]
  rw [e1]
  simp only [List.map_cons, nilL, hn]
  exact lift_one ho hr h1 h2 hs pre R
section
variable {K : FuncId → Nat → List Nat} {m d : Nat}
theorem R_fail (e : Int) (s : Rd) (hs : s.fine) (pre R : List Ob) : evFn tt (cut LR tb) BR K m (d + 1) 86 [.ptr pre.length 0, .v (.int .i64 e)] (pre ++ rd s :: R) = some ((.tup []), pre ++ rd (failN e s) :: R) := by
  rw [call_known rfl]
  exact BR_one (by simp) rfl (fun _ => rfl) (by simp [idsL, idsA]) (by simp [idsA, idsL]) (by simp) (by show evFn tt (cut [110] tb) BT KT 1000 9 86 [.ptr 0 0, .v (.int .i64 e)] [rd s] = _; exact r_fail e s hs) pre R
theorem R_fail0 (e : Int) (s : Rd) (hs : s.fine) (R : List Ob) : evFn tt (cut LR tb) BR K m (d + 1) 86 [.ptr 0 0, .v (.int .i64 e)] (rd s :: R) = some ((.tup []), rd (failN e s) :: R) := R_fail e s hs [] R
theorem R_fail1 (e : Int) (s : Rd) (hs : s.fine) (a0 : Ob) (R : List Ob) : evFn tt (cut LR tb) BR K m (d + 1) 86 [.ptr 1 0, .v (.int .i64 e)] (a0 :: rd s :: R) = some ((.tup []), a0 :: rd (failN e s) :: R) := R_fail e s hs [a0] R
theorem R_fail2 (e : Int) (s : Rd) (hs : s.fine) (a0 a1 : Ob) (R : List Ob) : evFn tt (cut LR tb) BR K m (d + 1) 86 [.ptr 2 0, .v (.int .i64 e)] (a0 :: a1 :: rd s :: R) = some ((.tup []), a0 :: a1 :: rd (failN e s) :: R) := R_fail e s hs [a0, a1] R
theorem R_fail3 (e : Int) (s : Rd) (hs : s.fine) (a0 a1 a2 : Ob) (R : List Ob) : evFn tt (cut LR tb) BR K m (d + 1) 86 [.ptr 3 0, .v (.int .i64 e)] (a0 :: a1 :: a2 :: rd s :: R) = some ((.tup []), a0 :: a1 :: a2 :: rd (failN e s) :: R) := R_fail e s hs [a0, a1, a2] R
theorem R_err  (s : Rd)  (pre R : List Ob) : evFn tt (cut LR tb) BR K m (d + 1) 64 [.ptr pre.length 0] (pre ++ rd s :: R) = some ((.v (.int .i64 (eN s))), pre ++ rd s :: R) := by
  rw [call_known rfl]
  exact BR_one (by simp) rfl (fun _ => rfl) (by simp [idsL, idsA]) (by simp [idsA, idsL]) (by simp) (by show evFn tt (cut [110] tb) BT KT 1000 9 64 [.ptr 0 0] [rd s] = _; exact r_err s) pre R
theorem R_err0  (s : Rd)  (R : List Ob) : evFn tt (cut LR tb) BR K m (d + 1) 64 [.ptr 0 0] (rd s :: R) = some ((.v (.int .i64 (eN s))), rd s :: R) := R_err s [] R
theorem R_err1  (s : Rd)  (a0 : Ob) (R : List Ob) : evFn tt (cut LR tb) BR K m (d + 1) 64 [.ptr 1 0] (a0 :: rd s :: R) = some ((.v (.int .i64 (eN s))), a0 :: rd s :: R) := R_err s [a0] R
theorem R_err2  (s : Rd)  (a0 a1 : Ob) (R : List Ob) : evFn tt (cut LR tb) BR K m (d + 1) 64 [.ptr 2 0] (a0 :: a1 :: rd s :: R) = some ((.v (.int .i64 (eN s))), a0 :: a1 :: rd s :: R) := R_err s [a0, a1] R
theorem R_err3  (s : Rd)  (a0 a1 a2 : Ob) (R : List Ob) : evFn tt (cut LR tb) BR K m (d + 1) 64 [.ptr 3 0] (a0 :: a1 :: a2 :: rd s :: R) = some ((.v (.int .i64 (eN s))), a0 :: a1 :: a2 :: rd s :: R) := R_err s [a0, a1, a2] R
theorem R_left  (s : Rd)  (pre R : List Ob) : evFn tt (cut LR tb) BR K m (d + 1) 65 [.ptr pre.length 0] (pre ++ rd s :: R) = some ((.v (.int .i64 (lenN s))), pre ++ rd s :: R) := by
  rw [call_known rfl]
  exact BR_one (by simp) rfl (fun _ => rfl) (by simp [idsL, idsA]) (by simp [idsA, idsL]) (by simp) (by show evFn tt (cut [110] tb) BT KT 1000 9 65 [.ptr 0 0] [rd s] = _; exact r_left s) pre R
theorem R_left0  (s : Rd)  (R : List Ob) : evFn tt (cut LR tb) BR K m (d + 1) 65 [.ptr 0 0] (rd s :: R) = some ((.v (.int .i64 (lenN s))), rd s :: R) := R_left s [] R
theorem R_left1  (s : Rd)  (a0 : Ob) (R : List Ob) : evFn tt (cut LR tb) BR K m (d + 1) 65 [.ptr 1 0] (a0 :: rd s :: R) = some ((.v (.int .i64 (lenN s))), a0 :: rd s :: R) := R_left s [a0] R
theorem R_left2  (s : Rd)  (a0 a1 : Ob) (R : List Ob) : evFn tt (cut LR tb) BR K m (d + 1) 65 [.ptr 2 0] (a0 :: a1 :: rd s :: R) = some ((.v (.int .i64 (lenN s))), a0 :: a1 :: rd s :: R) := R_left s [a0, a1] R
theorem R_left3  (s : Rd)  (a0 a1 a2 : Ob) (R : List Ob) : evFn tt (cut LR tb) BR K m (d + 1) 65 [.ptr 3 0] (a0 :: a1 :: a2 :: rd s :: R) = some ((.v (.int .i64 (lenN s))), a0 :: a1 :: a2 :: rd s :: R) := R_left s [a0, a1, a2] R
theorem R_int  (s : Rd) (hs : s.fine) (pre R : List Ob) : evFn tt (cut LR tb) BR K m (d + 1) 66 [.ptr pre.length 0] (pre ++ rd s :: R) = some ((.v (.int .u64 (intN s).1)), pre ++ rd (intN s).2 :: R) := by
  rw [call_known rfl]
  exact BR_one (by simp) rfl (fun _ => rfl) (by simp [idsL, idsA]) (by simp [idsA, idsL]) (by simp) (by show evFn tt (cut [110] tb) BT KT 1000 9 66 [.ptr 0 0] [rd s] = _; exact r_int s hs) pre R
theorem R_int0  (s : Rd) (hs : s.fine) (R : List Ob) : evFn tt (cut LR tb) BR K m (d + 1) 66 [.ptr 0 0] (rd s :: R) = some ((.v (.int .u64 (intN s).1)), rd (intN s).2 :: R) := R_int s hs [] R
theorem R_int1  (s : Rd) (hs : s.fine) (a0 : Ob) (R : List Ob) : evFn tt (cut LR tb) BR K m (d + 1) 66 [.ptr 1 0] (a0 :: rd s :: R) = some ((.v (.int .u64 (intN s).1)), a0 :: rd (intN s).2 :: R) := R_int s hs [a0] R
theorem R_int2  (s : Rd) (hs : s.fine) (a0 a1 : Ob) (R : List Ob) : evFn tt (cut LR tb) BR K m (d + 1) 66 [.ptr 2 0] (a0 :: a1 :: rd s :: R) = some ((.v (.int .u64 (intN s).1)), a0 :: a1 :: rd (intN s).2 :: R) := R_int s hs [a0, a1] R
theorem R_int3  (s : Rd) (hs : s.fine) (a0 a1 a2 : Ob) (R : List Ob) : evFn tt (cut LR tb) BR K m (d + 1) 66 [.ptr 3 0] (a0 :: a1 :: a2 :: rd s :: R) = some ((.v (.int .u64 (intN s).1)), a0 :: a1 :: a2 :: rd (intN s).2 :: R) := R_int s hs [a0, a1, a2] R
theorem R_count (k : Int) (s : Rd) (hs : s.fine) (hk : k < 9223372036854775808) (pre R : List Ob) : evFn tt (cut LR tb) BR K m (d + 1) 111 [.ptr pre.length 0, .v (.int .i64 k)] (pre ++ rd s :: R) = some ((.v (.int .i64 (countN k s).1)), pre ++ rd (countN k s).2 :: R) := by
  rw [call_known rfl]
  exact BR_one (by simp) rfl (fun _ => rfl) (by simp [idsL, idsA]) (by simp [idsA, idsL]) (by simp) (by show evFn tt (cut [110] tb) BT KT 1000 9 111 [.ptr 0 0, .v (.int .i64 k)] [rd s] = _; exact r_count k s hs hk) pre R
theorem R_count0 (k : Int) (s : Rd) (hs : s.fine) (hk : k < 9223372036854775808) (R : List Ob) : evFn tt (cut LR tb) BR K m (d + 1) 111 [.ptr 0 0, .v (.int .i64 k)] (rd s :: R) = some ((.v (.int .i64 (countN k s).1)), rd (countN k s).2 :: R) := R_count k s hs hk [] R
theorem R_count1 (k : Int) (s : Rd) (hs : s.fine) (hk : k < 9223372036854775808) (a0 : Ob) (R : List Ob) : evFn tt (cut LR tb) BR K m (d + 1) 111 [.ptr 1 0, .v (.int .i64 k)] (a0 :: rd s :: R) = some ((.v (.int .i64 (countN k s).1)), a0 :: rd (countN k s).2 :: R) := R_count k s hs hk [a0] R
theorem R_count2 (k : Int) (s : Rd) (hs : s.fine) (hk : k < 9223372036854775808) (a0 a1 : Ob) (R : List Ob) : evFn tt (cut LR tb) BR K m (d + 1) 111 [.ptr 2 0, .v (.int .i64 k)] (a0 :: a1 :: rd s :: R) = some ((.v (.int .i64 (countN k s).1)), a0 :: a1 :: rd (countN k s).2 :: R) := R_count k s hs hk [a0, a1] R
theorem R_count3 (k : Int) (s : Rd) (hs : s.fine) (hk : k < 9223372036854775808) (a0 a1 a2 : Ob) (R : List Ob) : evFn tt (cut LR tb) BR K m (d + 1) 111 [.ptr 3 0, .v (.int .i64 k)] (a0 :: a1 :: a2 :: rd s :: R) = some ((.v (.int .i64 (countN k s).1)), a0 :: a1 :: a2 :: rd (countN k s).2 :: R) := R_count k s hs hk [a0, a1, a2] R
theorem R_byte  (s : Rd) (hs : s.fine) (pre R : List Ob) : evFn tt (cut LR tb) BR K m (d + 1) 120 [.ptr pre.length 0] (pre ++ rd s :: R) = some ((.v (.int .u8 (byteN s))), pre ++ rd (bytesN 1 s).2 :: R) := by
  rw [call_known rfl]
  exact BR_one (by simp) rfl (fun _ => rfl) (by simp [idsL, idsA]) (by simp [idsA, idsL]) (by simp) (by show evFn tt (cut [110] tb) BT KT 1000 9 120 [.ptr 0 0] [rd s] = _; exact r_byte s hs) pre R
theorem R_byte0  (s : Rd) (hs : s.fine) (R : List Ob) : evFn tt (cut LR tb) BR K m (d + 1) 120 [.ptr 0 0] (rd s :: R) = some ((.v (.int .u8 (byteN s))), rd (bytesN 1 s).2 :: R) := R_byte s hs [] R
theorem R_byte1  (s : Rd) (hs : s.fine) (a0 : Ob) (R : List Ob) : evFn tt (cut LR tb) BR K m (d + 1) 120 [.ptr 1 0] (a0 :: rd s :: R) = some ((.v (.int .u8 (byteN s))), a0 :: rd (bytesN 1 s).2 :: R) := R_byte s hs [a0] R
theorem R_byte2  (s : Rd) (hs : s.fine) (a0 a1 : Ob) (R : List Ob) : evFn tt (cut LR tb) BR K m (d + 1) 120 [.ptr 2 0] (a0 :: a1 :: rd s :: R) = some ((.v (.int .u8 (byteN s))), a0 :: a1 :: rd (bytesN 1 s).2 :: R) := R_byte s hs [a0, a1] R
theorem R_byte3  (s : Rd) (hs : s.fine) (a0 a1 a2 : Ob) (R : List Ob) : evFn tt (cut LR tb) BR K m (d + 1) 120 [.ptr 3 0] (a0 :: a1 :: a2 :: rd s :: R) = some ((.v (.int .u8 (byteN s))), a0 :: a1 :: a2 :: rd (bytesN 1 s).2 :: R) := R_byte s hs [a0, a1, a2] R
theorem R_bytes (k : Int) (s : Rd) (hs : s.fine) (pre R : List Ob) : evFn tt (cut LR tb) BR K m (d + 1) 85 [.ptr pre.length 0, .v (.int .i64 k)] (pre ++ rd s :: R) = some ((.lst (bytesN k s).1.length ((bytesN k s).1.map a8)), pre ++ rd (bytesN k s).2 :: R) := by
  rw [call_known rfl]
  exact BR_one (by simp) rfl (fun _ => rfl) (by simp [idsL, idsA]) (by simp [idsA, idsL]) (by simp) (by show outFns (evFn tt (cut [110] tb) BT KT 1000 9) 85 [.ptr 0 0, .v (.int .i64 k)] [rd s] = _; exact r_bytes k s hs) pre R
theorem R_bytes0 (k : Int) (s : Rd) (hs : s.fine) (R : List Ob) : evFn tt (cut LR tb) BR K m (d + 1) 85 [.ptr 0 0, .v (.int .i64 k)] (rd s :: R) = some ((.lst (bytesN k s).1.length ((bytesN k s).1.map a8)), rd (bytesN k s).2 :: R) := R_bytes k s hs [] R
theorem R_bytes1 (k : Int) (s : Rd) (hs : s.fine) (a0 : Ob) (R : List Ob) : evFn tt (cut LR tb) BR K m (d + 1) 85 [.ptr 1 0, .v (.int .i64 k)] (a0 :: rd s :: R) = some ((.lst (bytesN k s).1.length ((bytesN k s).1.map a8)), a0 :: rd (bytesN k s).2 :: R) := R_bytes k s hs [a0] R
theorem R_bytes2 (k : Int) (s : Rd) (hs : s.fine) (a0 a1 : Ob) (R : List Ob) : evFn tt (cut LR tb) BR K m (d + 1) 85 [.ptr 2 0, .v (.int .i64 k)] (a0 :: a1 :: rd s :: R) = some ((.lst (bytesN k s).1.length ((bytesN k s).1.map a8)), a0 :: a1 :: rd (bytesN k s).2 :: R) := R_bytes k s hs [a0, a1] R
theorem R_bytes3 (k : Int) (s : Rd) (hs : s.fine) (a0 a1 a2 : Ob) (R : List Ob) : evFn tt (cut LR tb) BR K m (d + 1) 85 [.ptr 3 0, .v (.int .i64 k)] (a0 :: a1 :: a2 :: rd s :: R) = some ((.lst (bytesN k s).1.length ((bytesN k s).1.map a8)), a0 :: a1 :: a2 :: rd (bytesN k s).2 :: R) := R_bytes k s hs [a0, a1, a2] R
theorem R_long (k : Int) (s : Rd) (hs : s.fine) (hk : k < 9223372036854775808) (pre R : List Ob) : evFn tt (cut LR tb) BR K m (d + 1) 67 [.ptr pre.length 0, .v (.int .i64 k)] (pre ++ rd s :: R) = some ((.lst (longN k s).1.length ((longN k s).1.map a8)), pre ++ rd (longN k s).2 :: R) := by
  rw [call_known rfl]
  exact BR_one (by simp) rfl (fun _ => rfl) (by simp [idsL, idsA]) (by simp [idsA, idsL]) (by simp) (by show outFns (evFn tt (cut [110] tb) BT KT 1000 9) 67 [.ptr 0 0, .v (.int .i64 k)] [rd s] = _; exact r_long k s hs hk) pre R
theorem R_long0 (k : Int) (s : Rd) (hs : s.fine) (hk : k < 9223372036854775808) (R : List Ob) : evFn tt (cut LR tb) BR K m (d + 1) 67 [.ptr 0 0, .v (.int .i64 k)] (rd s :: R) = some ((.lst (longN k s).1.length ((longN k s).1.map a8)), rd (longN k s).2 :: R) := R_long k s hs hk [] R
theorem R_long1 (k : Int) (s : Rd) (hs : s.fine) (hk : k < 9223372036854775808) (a0 : Ob) (R : List Ob) : evFn tt (cut LR tb) BR K m (d + 1) 67 [.ptr 1 0, .v (.int .i64 k)] (a0 :: rd s :: R) = some ((.lst (longN k s).1.length ((longN k s).1.map a8)), a0 :: rd (longN k s).2 :: R) := R_long k s hs hk [a0] R
theorem R_long2 (k : Int) (s : Rd) (hs : s.fine) (hk : k < 9223372036854775808) (a0 a1 : Ob) (R : List Ob) : evFn tt (cut LR tb) BR K m (d + 1) 67 [.ptr 2 0, .v (.int .i64 k)] (a0 :: a1 :: rd s :: R) = some ((.lst (longN k s).1.length ((longN k s).1.map a8)), a0 :: a1 :: rd (longN k s).2 :: R) := R_long k s hs hk [a0, a1] R
theorem R_long3 (k : Int) (s : Rd) (hs : s.fine) (hk : k < 9223372036854775808) (a0 a1 a2 : Ob) (R : List Ob) : evFn tt (cut LR tb) BR K m (d + 1) 67 [.ptr 3 0, .v (.int .i64 k)] (a0 :: a1 :: a2 :: rd s :: R) = some ((.lst (longN k s).1.length ((longN k s).1.map a8)), a0 :: a1 :: a2 :: rd (longN k s).2 :: R) := R_long k s hs hk [a0, a1, a2] R
theorem R_end  (s : Rd) (hs : s.fine) (pre R : List Ob) : evFn tt (cut LR tb) BR K m (d + 1) 89 [.ptr pre.length 0] (pre ++ rd s :: R) = some ((.v (.int .i64 (eN (endN s)))), pre ++ rd (endN s) :: R) := by
  rw [call_known rfl]
  exact BR_one (by simp) rfl (fun _ => rfl) (by simp [idsL, idsA]) (by simp [idsA, idsL]) (by simp) (by show evFn tt (cut [110] tb) BT KT 1000 9 89 [.ptr 0 0] [rd s] = _; exact r_end s hs) pre R
theorem R_end0  (s : Rd) (hs : s.fine) (R : List Ob) : evFn tt (cut LR tb) BR K m (d + 1) 89 [.ptr 0 0] (rd s :: R) = some ((.v (.int .i64 (eN (endN s)))), rd (endN s) :: R) := R_end s hs [] R
theorem R_end1  (s : Rd) (hs : s.fine) (a0 : Ob) (R : List Ob) : evFn tt (cut LR tb) BR K m (d + 1) 89 [.ptr 1 0] (a0 :: rd s :: R) = some ((.v (.int .i64 (eN (endN s)))), a0 :: rd (endN s) :: R) := R_end s hs [a0] R
theorem R_end2  (s : Rd) (hs : s.fine) (a0 a1 : Ob) (R : List Ob) : evFn tt (cut LR tb) BR K m (d + 1) 89 [.ptr 2 0] (a0 :: a1 :: rd s :: R) = some ((.v (.int .i64 (eN (endN s)))), a0 :: a1 :: rd (endN s) :: R) := R_end s hs [a0, a1] R
theorem R_end3  (s : Rd) (hs : s.fine) (a0 a1 a2 : Ob) (R : List Ob) : evFn tt (cut LR tb) BR K m (d + 1) 89 [.ptr 3 0] (a0 :: a1 :: a2 :: rd s :: R) = some ((.v (.int .i64 (eN (endN s)))), a0 :: a1 :: a2 :: rd (endN s) :: R) := R_end s hs [a0, a1, a2] R
theorem R_read (L : List Nat) (H : List Ob) : evFn tt (cut LR tb) BR K m (d + 1) 63 [.lst L.length (L.map a8)] H = some (.ptr H.length 0, H ++ [rd (.good L)]) := by
  rw [call_known rfl]
  have h := r_read (K := KT) (m := 1000) (d := 8) L
  simp [BR, softFns, nilFns, BR0, pick, h, freeze_a8, lA_good, eN_good]
end
end Go.Flat
