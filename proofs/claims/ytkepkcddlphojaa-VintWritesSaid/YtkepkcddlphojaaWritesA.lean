/-
  The Writer of layer 1 over the plain view of memory: numbers put one behind the other. No condition but that sizes are small.
-/
import Derived.Test.YtkepkcddlphojaaVintBytesGo
import Derived.Test.YtkepkcddlphojaaFlatR
import Derived.Test.YtkepkcddlphojaaFlatQ
namespace Go.Flat
open Go.Proofs
set_option linter.unusedSimpArgs false
set_option maxRecDepth 100000
set_option maxHeartbeats 4000000

/-- What is asked of Wide: with a number that has no bytes nothing is touched; else what it is handed is written no more. -/
noncomputable def B6 : Fns := fun g args h =>
  if g = 26 then
    match args with
    | [_, .v (.int .u64 n), _] => if lenZ n = 0 then evFn tt tb noFns KT 1000 9 g args h else nilFns (frzFns (appFns S1)) g args h
    | _ => none
  else appFns S1 g args h

theorem S1_sound : Sound Try.prog (appFns S1) := appFns_sound fun g args r h1 hs => by
  unfold S1 at hs
  split at hs
  · exact evs_sound (noFns_sound _) KT 1000 9 g args [] r h1 hs
  · cases hs
theorem B6_sound : Sound Try.prog B6 := by
  intro g args h r h' he
  unfold B6 at he
  split at he
  · split at he
    · split at he
      · exact evs_sound (noFns_sound _) KT 1000 9 g _ h r h' he
      · exact nilFns_sound (frzFns_sound S1_sound) g _ h r h' he
    · cases he
  · exact S1_sound g args h r h' he

def KW : FuncId → Nat → List Nat
  | 30, 2 => [0, 10, 11, 12]
  | 6, 10 => [1, 7, 8, 9, 43, 44, 45]
  | 6, 14 => [1, 7, 8, 9, 43, 44, 45, 52, 53, 54]
  | _, _ => []
theorem KW30 : KW 30 2 = [0, 10, 11, 12] := rfl
theorem KW6 : KW 6 10 = [1, 7, 8, 9, 43, 44, 45] := rfl
theorem KW6b : KW 6 14 = [1, 7, 8, 9, 43, 44, 45, 52, 53, 54] := rfl

noncomputable def E6 (d : Nat) : Fns := evFn tt (cut [26, 27] tb) B6 KW 1000 d
def u64A (n : Nat) : A := .v (.int .u64 n)
def szOf (n : Nat) : Nat := (lenZ n).toNat
def enc (n : Nat) : List Nat := bytesOf n (szOf n)
theorem sz_ok {n : Nat} (h : lenZ n ≠ 0) : okSize (szOf n) ∧ lenZ n = szOf n := by
  rcases len_cases n with h0 | ⟨k, hk, h0⟩
  · exact absurd h0 h
  · unfold szOf; rw [h0]; exact ⟨hk, rfl⟩
theorem enc_len {n : Nat} (h : lenZ n ≠ 0) : (enc n).length = szOf n := bytes_len n (sz_ok h).1
theorem enc_lt {n : Nat} (h : lenZ n ≠ 0) : ∀ b ∈ enc n, b < 256 := bytes_lt (sz_ok h).1 (by rw [(sz_ok h).2]; exact Int.le_refl _) h
theorem sz_le {n : Nat} (h : lenZ n ≠ 0) : 1 ≤ szOf n ∧ szOf n ≤ 8 := by rcases (sz_ok h).1 with e | e | e | e <;> rw [e] <;> decide

theorem k26_no (d : Nat) (x : A) (n : Nat) (h0 : lenZ n = 0) (H : List Ob) :
    evFn tt (cut [26, 27] tb) B6 KW 1000 (d + 1) 26 [x, .v (.int .u64 n), .v (.int .i64 (lenZ n))] H = some (.tup [.v (.slice none 0 0), .v (.int .i64 2)], H) := by
  rw [call_known rfl, h0]
  simp only [B6, if_true, h0]
  exact wide26_other noFns 7 x n 0 (by decide) (by decide) (by decide) (by decide) H
theorem k26_nil (d : Nat) (n : Nat) (h0 : lenZ n ≠ 0) (H : List Ob) :
    evFn tt (cut [26, 27] tb) B6 KW 1000 (d + 1) 26 [.v (.slice none 0 0), .v (.int .u64 n), .v (.int .i64 (lenZ n))] H = some (.tup [.sl H.length 0 (szOf n) 1, .v (.int .i64 0)], H ++ [.row ((enc n).map a8)]) := by
  have hs := (sz_ok h0).2
  have hw := w26 noFns 7 [] n (szOf n) (sz_ok h0).1 (by rw [hs]; exact Int.le_refl _) h0 (by decide)
  rw [call_known rfl]
  simp only [B6, if_true, if_neg h0, nilFns, List.map_cons, List.map_nil, nilL, frzFns]
  rw [hs]
  have hf : freezeAll H [.lst 0 [], .v (.int .u64 n), .v (.int .i64 (szOf n))] = some ([.lst 0 [], .v (.int .u64 n), .v (.int .i64 (szOf n))], H) := by simp [freezeAll, freeze, flat]
  have hid : idsL [A.lst 0 [], .v (.int .u64 n), .v (.int .i64 (szOf n))] = [] := by simp
  simp only [List.length_nil, List.map_nil, List.nil_append, Nat.zero_add] at hw
  simp only [hf, appFns, S1, hid, true_or, if_true, hw]
  simp [enc]
theorem k26_row (d : Nat) (L : List Nat) (n i : Nat) (h0 : lenZ n ≠ 0) (H : List Ob) (hi : H[i]? = some (.row (L.map a8))) (hL : L.length ≤ 1000) :
    evFn tt (cut [26, 27] tb) B6 KW 1000 (d + 1) 26 [.sl i 0 L.length 1, .v (.int .u64 n), .v (.int .i64 (lenZ n))] H = some (.tup [.sl H.length 0 (L.length + szOf n) 1, .v (.int .i64 0)], H.set i (.ro (L.map a8)) ++ [.row ((L ++ enc n).map a8)]) := by
  have hs := (sz_ok h0).2
  have hw := w26 noFns 7 L n (szOf n) (sz_ok h0).1 (by rw [hs]; exact Int.le_refl _) h0 hL
  rw [call_known rfl]
  simp only [B6, if_true, if_neg h0, nilFns, List.map_cons, List.map_nil, nilL, frzFns]
  rw [hs]
  have hf : freezeAll H [.sl i 0 L.length 1, .v (.int .u64 n), .v (.int .i64 (szOf n))] = some ([.lst L.length (L.map a8), .v (.int .u64 n), .v (.int .i64 (szOf n))], H.set i (.ro (L.map a8))) := by simp [freezeAll, freeze, flat, hi, tk_all]
  have hid : idsL [A.lst L.length (L.map a8), .v (.int .u64 n), .v (.int .i64 (szOf n))] = [] := by simp
  simp only [hf, appFns, S1, hid, true_or, if_true, hw]
  simp [enc]
theorem k27 (d : Nat) (n : Nat) (h0 : lenZ n ≠ 0) (H : List Ob) :
    evFn tt (cut [26, 27] tb) B6 KW 1000 (d + 1) 27 [.v (.int .u64 n), .v (.int .i64 (lenZ n))] H = some (.sl H.length 0 (szOf n) 1, H ++ [.row ((enc n).map a8)]) := by
  have hs := (sz_ok h0).2
  have hw := w27 noFns 7 n (szOf n) (sz_ok h0).1 (by rw [hs]; exact Int.le_refl _) h0
  rw [call_known rfl, hs]
  have hid : idsL [A.v (.int .u64 n), .v (.int .i64 (szOf n))] = [] := by simp
  simp only [B6, appFns, S1, hid, hw]
  simp [enc]
theorem k27_no (d : Nat) (n : Nat) (h0 : lenZ n = 0) (H : List Ob) :
    evFn tt (cut [26, 27] tb) B6 KW 1000 (d + 1) 27 [.v (.int .u64 n), .v (.int .i64 (lenZ n))] H = some (.v (.slice none 0 0), H) := by
  have hw := wide27_small noFns 7 n 0 (Or.inl h0) []
  rw [call_known rfl, h0]
  have hid : idsL [A.v (.int .u64 n), .v (.int .i64 0)] = [] := by simp
  simp only [B6, appFns, S1, hid, hw]
  simp

/-- What the writer's slice is: none yet, or one of its own. -/
def wSl (o : Option (List Nat)) (i : Nat) : A :=
  match o with
  | none => .v (.slice none 0 0)
  | some L => .sl i 0 L.length 1
end Go.Flat
