/-
  The run of the law VintBytes over the plain view of memory (under way).
-/
import Derived.Test.YtkepkcddlphojaaWideRun
import Derived.Test.YtkepkcddlphojaaStrRun
namespace Go.Flat
set_option linter.unusedSimpArgs false
set_option linter.unusedVariables false
open Go.Proofs
set_option maxRecDepth 100000
set_option maxHeartbeats 4000000

/-- What is known over an empty memory. -/
noncomputable def S1 : FuncId → List A → Option (A × List Ob) := fun g args => if g = 26 ∨ g = 27 ∨ g = 28 then evFn tt tb noFns KT 1000 9 g args [] else none
noncomputable def B1 : Fns := fun g args h => if g = 28 then frzFns (appFns S1) g args h else appFns S1 g args h

theorem B1_sound : Sound Try.prog B1 := by
  have h1 : Sound Try.prog (appFns S1) := appFns_sound fun g args r h1 hs => by
    unfold S1 at hs
    split at hs
    · exact evs_sound (noFns_sound _) KT 1000 9 g args [] r h1 hs
    · cases hs
  intro g args h r h' he
  unfold B1 at he
  split at he
  · exact frzFns_sound h1 g args h r h' he
  · exact h1 g args h r h' he

theorem known26 (K : FuncId → Nat → List Nat) (m d : Nat) (args : List A) (r : A) (h1 : List Ob) (ha : idsL args = []) (h : List Ob) (he : evFn tt tb noFns KT 1000 9 26 args [] = some (r, h1)) :
    evFn tt (cut [26, 27, 28] tb) B1 K m (d + 1) 26 args h = some (mapA h.length r, h ++ h1.map (mapOb h.length)) := by
  rw [call_known rfl]
  simp [B1, appFns, S1, he, ha]
theorem known27 (K : FuncId → Nat → List Nat) (m d : Nat) (args : List A) (r : A) (h1 : List Ob) (ha : idsL args = []) (h : List Ob) (he : evFn tt tb noFns KT 1000 9 27 args [] = some (r, h1)) :
    evFn tt (cut [26, 27, 28] tb) B1 K m (d + 1) 27 args h = some (mapA h.length r, h ++ h1.map (mapOb h.length)) := by
  rw [call_known rfl]
  simp [B1, appFns, S1, he, ha]
theorem known28 (K : FuncId → Nat → List Nat) (m d : Nat) (xs : List Nat) (r : A) (h : List Ob) (i : Nat) (hi : h[i]? = some (.row (xs.map a8))) (he : evFn tt tb noFns KT 1000 9 28 [.lst xs.length (xs.map a8)] [] = some (r, [])) :
    evFn tt (cut [26, 27, 28] tb) B1 K m (d + 1) 28 [.sl i 0 xs.length 1] h = some (mapA h.length r, h.set i (.ro (xs.map a8))) := by
  rw [call_known rfl]
  have hf : freezeAll h [.sl i 0 xs.length 1] = some ([.lst xs.length (xs.map a8)], h.set i (.ro (xs.map a8))) := by
    simp [freezeAll, freeze, hi, tk_all]
  have hid : idsL [A.lst xs.length (xs.map a8)] = [] := by simp
  simp only [B1, if_true, frzFns, hf, appFns, S1, he, hid]
  simp


theorem len22c (L : List FuncId) (hL : L.contains 22 = false) (B : Fns) (K : FuncId → Nat → List Nat) (m d : Nat) (n : Int) (h : List Ob) : evFn tt (cut L tb) B K m (d + 1) 22 [.v (.int .u64 n)] h = some (.v (.int .i64 (lenZ n)), h) := by
  rw [call_cut tb22 hL]
  unfold lenZ
  by_cases h1 : n < 64
  · simp [Try.f22, h1]
  · by_cases h2 : n < 16384
    · simp [Try.f22, h1, h2]
    · by_cases h3 : n < 1073741824
      · simp [Try.f22, h1, h2, h3]
      · by_cases h4 : n ≤ 4611686018427387903
        · simp [Try.f22, h1, h2, h3, h4]
        · simp [Try.f22, h1, h2, h3, h4]
theorem len23c (L : List FuncId) (hL : L.contains 23 = false) (B : Fns) (K : FuncId → Nat → List Nat) (m d : Nat) (n : Int) (h : List Ob) : evFn tt (cut L tb) B K m (d + 1) 23 [.v (.int .u64 n)] h = some (.v (.int .i64 (lenZ n)), h) := by
  rw [call_cut tb23 hL]
  unfold lenZ
  by_cases h0 : 4611686018427387903 < n
  · have h1 : ¬ n < 64 := by omega
    have h2 : ¬ n < 16384 := by omega
    have h3 : ¬ n < 1073741824 := by omega
    have h4 : ¬ n ≤ 4611686018427387903 := by omega
    rw [if_neg h1, if_neg h2, if_neg h3, if_neg h4]
    simp [Try.f23, h0]
  · have h4 : n ≤ 4611686018427387903 := by omega
    by_cases h1 : n < 64
    · simp [Try.f23, h0, h1]
    · by_cases h2 : n < 16384
      · simp [Try.f23, h0, h1, h2]
      · by_cases h3 : n < 1073741824
        · simp [Try.f23, h0, h1, h2, h3]
        · simp [Try.f23, h0, h1, h2, h3, h4]
/-- Put of the program: Wide with the fewest bytes. -/
theorem put24 (K : FuncId → Nat → List Nat) (m d : Nat) (x : A) (n : Int) (h h1 : List Ob) (r e : A) (hw : evFn tt (cut [26, 27, 28] tb) B1 K m (d + 1) 26 [x, .v (.int .u64 n), .v (.int .i64 (lenZ n))] h = some (.tup [r, e], h1)) :
    evFn tt (cut [26, 27, 28] tb) B1 K m (d + 2) 24 [x, .v (.int .u64 n)] h = gcK (gc h.length ⟨[.tup [r, e]], h1⟩) := by
  have hl := len22c [26, 27, 28] rfl B1 K m d n h
  rw [call_cut tb24 rfl]
  simp [Try.f24, hl, hw]
end Go.Flat
