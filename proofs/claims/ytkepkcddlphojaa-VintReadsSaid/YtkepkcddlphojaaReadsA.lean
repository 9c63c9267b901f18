/-
  The Reader of layer 1, and the functions of the law that follow it, over the plain view of memory. No condition but that bytes are bytes.
-/
import Derived.Test.YtkepkcddlphojaaVintBytesGo
import Derived.Test.YtkepkcddlphojaaFlatQ
namespace Go.Flat
open Go.Proofs
set_option linter.unusedSimpArgs false
set_option linter.unusedVariables false
set_option maxRecDepth 100000
set_option maxHeartbeats 4000000

noncomputable def S9 : FuncId → List A → Option (A × List Ob) := fun g args => if g = 28 ∨ g = 29 then evFn tt tb noFns KT 1000 9 g args [] else none
noncomputable def B9 : Fns := nilFns (appFns S9)
theorem B9_sound : Sound Try.prog B9 := nilFns_sound (appFns_sound fun g args r h1 hs => by
  unfold S9 at hs
  split at hs
  · exact evs_sound (noFns_sound _) KT 1000 9 g args [] r h1 hs
  · cases hs)

/-- How a reader is: so many bytes are left, or an error. -/
inductive Rd
  | good (L : List Nat)
  | bad (e : Int)
def lA : Rd → A
  | .good L => .lst L.length (L.map a8)
  | .bad _ => .v (.slice none 0 0)
def eN : Rd → Int
  | .good _ => 0
  | .bad e => e
@[simp] theorem lA_good (L : List Nat) : lA (.good L) = .lst L.length (L.map a8) := rfl
@[simp] theorem lA_bad (e : Int) : lA (.bad e) = .v (.slice none 0 0) := rfl
@[simp] theorem eN_good (L : List Nat) : eN (.good L) = 0 := rfl
@[simp] theorem eN_bad (e : Int) : eN (.bad e) = e := rfl
@[simp] theorem ids_lA (s : Rd) : idsA (lA s) = [] := by cases s <;> rfl
@[simp] theorem ren_lA (sel : List Nat) (s : Rd) : renA sel (lA s) = some (lA s) := by cases s <;> rfl
def Rd.fine : Rd → Prop
  | .good L => (∀ n ∈ L, n < 256) ∧ L.length ≤ 200
  | .bad e => e ≠ 0
/-- The memory: the reader; what the law holds. -/
def Hh (s s' : Rd) (R : List Ob) : List Ob :=
  .cells [lA s, .v (.int .i64 (eN s))] :: .cells [lA s'] :: .cells [.v (.int .i64 (eN s'))] :: .cells [.fn 47 [.ptr 2 0, .ptr 1 0]] :: .cells [.fn 48 [.ptr 1 0, .ptr 2 0, .ptr 3 0]] :: R

@[simp] theorem Hh_len (s s' : Rd) (R : List Ob) : (Hh s s' R).length = R.length + 5 := rfl

def tk : List Nat → Option (Nat × Nat)
  | [] => none
  | x :: r => if r.length + 1 < 2 ^ (x / 64) then none else some (FV r (x % 64) (2 ^ (x / 64) - 1), 2 ^ (x / 64))
theorem tk_some {L : List Nat} {n k : Nat} (hL : ∀ b ∈ L, b < 256) (h : tk L = some (n, k)) : 1 ≤ k ∧ k ≤ 8 ∧ k ≤ L.length ∧ n < 4611686018427387904 := by
  cases L with
  | nil => cases h
  | cons x r =>
    simp only [tk] at h
    split at h
    · cases h
    · rename_i hs
      obtain ⟨rfl, rfl⟩ := Prod.mk.inj (Option.some.inj h)
      have hx := hL x List.mem_cons_self
      obtain ⟨q, hq, hq2, -, -⟩ := size_of hx
      rw [hq2] at hs ⊢
      have hk8 : 2 ^ q ≤ 2 ^ 3 := Nat.pow_le_pow_right (by decide) hq
      have hk1 : 1 ≤ 2 ^ q := Nat.one_le_two_pow
      have hf := FV_lt (r := r) (fun b hb => hL b (List.mem_cons_of_mem _ hb)) (v := x % 64) (by omega) (2 ^ q - 1)
      have hp : 256 ^ (2 ^ q - 1) ≤ 256 ^ 7 := Nat.pow_le_pow_right (by decide) (by omega)
      simp only [List.length_cons]
      refine ⟨hk1, by omega, by omega, ?_⟩
      omega

section
variable {K : FuncId → Nat → List Nat} {m d : Nat}
theorem k28 (L : List Nat) (hL : ∀ b ∈ L, b < 256) (H : List Ob) : evFn tt (cut [28, 29] tb) B9 K m (d + 1) 28 [.lst L.length (L.map a8)] H =
    some (.tup (match tk L with | some (n, k) => [.v (.int .u64 n), .v (.int .i64 k), .v (.int .i64 0)] | none => [.v (.int .u64 0), .v (.int .i64 0), .v (.int .i64 3)]), H) := by
  have h : evFn tt tb noFns KT 1000 9 28 [.lst L.length (L.map a8)] [] = some (.tup (match tk L with | some (n, k) => [.v (.int .u64 n), .v (.int .i64 k), .v (.int .i64 0)] | none => [.v (.int .u64 0), .v (.int .i64 0), .v (.int .i64 3)]), []) := by
    cases L with
    | nil => exact take_none noFns 8
    | cons x r =>
      have hx := hL x List.mem_cons_self
      by_cases hs : r.length + 1 < 2 ^ (x / 64)
      · simp only [tk, if_pos hs]; exact take_short noFns 8 x r hx hs
      · simp only [tk, if_neg hs]; exact take_ok noFns 8 x r (fun b hb => hL b (List.mem_cons_of_mem _ hb)) hx hs
  rw [call_known rfl]
  simp only [B9, nilFns, List.map_cons, List.map_nil, nilL, appFns, S9, true_or, if_true, h]
  cases tk L with
  | none => simp
  | some p => simp
theorem k29 (L : List Nat) (hL : ∀ b ∈ L, b < 256) (H : List Ob) : evFn tt (cut [28, 29] tb) B9 K m (d + 1) 29 [.lst L.length (L.map a8)] H =
    some (.tup (match tk L with | some (n, k) => [.v (.int .u64 n), .v (.int .i64 k)] | none => [.v (.int .u64 0), .v (.int .i64 0)]), H) := by
  have h : evFn tt tb noFns KT 1000 9 29 [.lst L.length (L.map a8)] [] = some (.tup (match tk L with | some (n, k) => [.v (.int .u64 n), .v (.int .i64 k)] | none => [.v (.int .u64 0), .v (.int .i64 0)]), []) := by
    cases L with
    | nil => exact rtake_none noFns 8
    | cons x r =>
      have hx := hL x List.mem_cons_self
      obtain ⟨q, hq, hq2, -, -⟩ := size_of hx
      have := rtake_sizes x r q hx hq hq2 noFns 8 (fun b hb => hL b (List.mem_cons_of_mem _ hb))
      simp only [tk, hq2]
      rw [List.length_cons, List.map_cons, this]
      split <;> rfl
  rw [call_known rfl]
  simp only [B9, nilFns, List.map_cons, List.map_nil, nilL, appFns, S9, or_true, if_true, h]
  cases tk L with
  | none => simp
  | some p => simp
theorem k29_nil (H : List Ob) : evFn tt (cut [28, 29] tb) B9 K m (d + 1) 29 [.v (.slice none 0 0)] H = some (.tup [.v (.int .u64 0), .v (.int .i64 0)], H) := by
  have h := rtake_none noFns 8
  rw [call_known rfl]
  simp only [B9, nilFns, List.map_cons, List.map_nil, nilL, appFns, S9, or_true, if_true, h]
  simp
end

def failN (e : Int) : Rd → Rd
  | .good _ => .bad e
  | .bad e' => .bad e'
def intN : Rd → Nat × Rd
  | .bad e => (0, .bad e)
  | .good L => match tk L with | none => (0, .bad 3) | some (n, k) => (n, .good (L.drop k))
def countN (k : Int) (s : Rd) : Nat × Rd := if ((intN s).1 : Int) ≤ (if k < 0 then 0 else k) then intN s else (0, failN 2 (intN s).2)
def bytesN (k : Int) : Rd → List Nat × Rd
  | .bad e => ([], .bad e)
  | .good L => if k < 0 ∨ (L.length : Int) < k then ([], .bad 3) else (L.take k.toNat, .good (L.drop k.toNat))

theorem fail_fine {s : Rd} (e : Int) (he : e ≠ 0) (h : s.fine) : (failN e s).fine := by
  cases s with
  | good L => exact he
  | bad e' => exact h
theorem int_fine {s : Rd} (h : s.fine) : (intN s).2.fine ∧ (intN s).1 < 4611686018427387904 := by
  cases s with
  | bad e => exact ⟨h, (by decide : (0 : Nat) < 4611686018427387904)⟩
  | good L =>
    simp only [intN]
    cases ht : tk L with
    | none => exact ⟨(by decide : (3 : Int) ≠ 0), (by decide : (0 : Nat) < 4611686018427387904)⟩
    | some p =>
      obtain ⟨n, k⟩ := p
      have := tk_some h.1 ht
      exact ⟨⟨fun b hb => h.1 b (List.mem_of_mem_drop hb), by rw [List.length_drop]; have := h.2; omega⟩, this.2.2.2⟩
theorem count_fine {s : Rd} (k : Int) (h : s.fine) : (countN k s).2.fine := by
  unfold countN
  generalize (if k < 0 then (0 : Int) else k) = mx
  split
  · exact (int_fine h).1
  · exact fail_fine 2 (by decide) (int_fine h).1
theorem bytes_fine {s : Rd} (k : Int) (h : s.fine) : (bytesN k s).2.fine := by
  cases s with
  | bad e => exact h
  | good L =>
    simp only [bytesN]
    split
    · exact fun h => by cases h
    · exact ⟨fun b hb => h.1 b (List.mem_of_mem_drop hb), by simp only [List.length_drop]; have := h.2; omega⟩
end Go.Flat
