/-
  The run of the law VintWrites over the plain view of memory: it answers true. No condition.
-/
import Derived.Test.YtkepkcddlphojaaWritesC
import Derived.Test.YtkepkcddlphojaaStrRun
namespace Go.Flat
open Go.Proofs
set_option linter.unusedSimpArgs false
set_option maxRecDepth 100000
set_option maxHeartbeats 8000000

theorem conv_u64 (n : Int) (h : List Ob) : evConvert tt 3 26 (.v (.int .i64 n)) h = some (.v (.int .u64 (IntKind.u64.wrap n)), h) := by simp
theorem vint_awake6 : evFn tt (cut [26, 27] tb) B6 KW 1000 9 21 [] [] = some (.v (.bool true), []) := by kernel_rfl

/-- How many at the beginning have bytes. -/
def nGood : List Nat → Nat
  | [] => 0
  | x :: r => if lenZ (x : Nat) = 0 then 0 else nGood r + 1
def pre (p : List Nat) (j : Nat) : List Nat := (p.take j).flatMap enc
theorem nGood_le : ∀ p, nGood p ≤ p.length
  | [] => Nat.le_refl _
  | x :: r => by
    have := nGood_le r
    simp only [nGood, List.length_cons]
    split <;> omega
theorem nGood_lt : ∀ (p : List Nat) (j : Nat), j < nGood p → lenZ (p.getD j 0 : Nat) ≠ 0
  | [], j, h => by simp [nGood] at h
  | x :: r, j, h => by
    simp only [nGood] at h
    split at h
    · omega
    · cases j with
      | zero => simpa using ‹¬ lenZ (x : Nat) = 0›
      | succ j => simpa using nGood_lt r j (by omega)
theorem nGood_end : ∀ (p : List Nat), nGood p = p.length ∨ (nGood p < p.length ∧ lenZ (p.getD (nGood p) 0 : Nat) = 0)
  | [] => Or.inl rfl
  | x :: r => by
    by_cases hx : lenZ (x : Nat) = 0
    · simp only [nGood, if_pos hx]
      exact Or.inr ⟨by simp, by simpa using hx⟩
    · simp only [nGood, if_neg hx]
      rcases nGood_end r with h | ⟨h1, h2⟩
      · exact Or.inl (by simp [h])
      · exact Or.inr ⟨by simpa using h1, by simpa using h2⟩
theorem pre_zero (p : List Nat) : pre p 0 = [] := rfl
theorem pre_succ {p : List Nat} {j : Nat} (h : j < p.length) : pre p (j + 1) = pre p j ++ enc (p.getD j 0) := by
  unfold pre
  rw [List.take_succ_eq_append_getElem h, List.flatMap_append, List.getD_eq_getElem?_getD, List.getElem?_eq_getElem h]
  simp
theorem pre_len {p : List Nat} : ∀ {j : Nat}, j ≤ nGood p → (pre p j).length ≤ 8 * j
  | 0, _ => by simp [pre_zero]
  | j + 1, h => by
    have h1 := nGood_le p
    have := pre_len (p := p) (j := j) (by omega)
    have h2 := nGood_lt p j (by omega)
    have h3 := sz_le h2
    rw [pre_succ (by omega), List.length_append, enc_len h2]
    omega
theorem pre_lt {p : List Nat} : ∀ {j : Nat}, j ≤ nGood p → ∀ b ∈ pre p j, b < 256
  | 0, _, b, hb => by simp [pre_zero] at hb
  | j + 1, h, b, hb => by
    have h1 := nGood_le p
    rw [pre_succ (by omega)] at hb
    rcases List.mem_append.1 hb with hb | hb
    · exact pre_lt (by omega) b hb
    · exact enc_lt (nGood_lt p j (by omega)) b hb

def part (l : List Nat) (c i : Nat) : List Nat := if i = 0 then l.take c else l.drop c
def partsRow (l : List Nat) (c : Nat) : List A := [.lst (part l c 0).length ((part l c 0).map u64A), .lst (part l c 1).length ((part l c 1).map u64A)]
theorem parts_at (l : List Nat) (c : Nat) : ∀ i, i < 2 → List.take 1 (List.drop i (partsRow l c)) = [.lst (part l c i).length ((part l c i).map u64A)]
  | 0, _ => rfl
  | 1, _ => rfl
/-- What is written behind i parts; whether anything is; whether a number had no bytes. -/
def stW (q : Nat → List Nat) : Nat → List Nat
  | 0 => []
  | i + 1 => stW q i ++ pre (q i) (nGood (q i))
def stH (q : Nat → List Nat) : Nat → Bool
  | 0 => false
  | i + 1 => stH q i || decide (0 < nGood (q i))
def stB (q : Nat → List Nat) : Nat → Bool
  | 0 => false
  | i + 1 => stB q i || decide (nGood (q i) < (q i).length)
def stE (q : Nat → List Nat) (i : Nat) : Int := if stB q i then 2 else 0
theorem stW_none {q : Nat → List Nat} : ∀ {i}, stH q i = false → stW q i = []
  | 0, _ => rfl
  | i + 1, h => by
    simp only [stH, Bool.or_eq_false_iff, decide_eq_false_iff_not] at h
    have h0 : nGood (q i) = 0 := by omega
    simp only [stW, stW_none h.1, h0, pre_zero, List.append_nil]
theorem stW_lt {q : Nat → List Nat} : ∀ {i}, ∀ b ∈ stW q i, b < 256
  | 0, b, hb => by cases hb
  | i + 1, b, hb => by
    rcases List.mem_append.1 hb with hb | hb
    · exact stW_lt b hb
    · exact pre_lt (Nat.le_refl _) b hb
theorem stE_succ (q : Nat → List Nat) (i : Nat) : stE q (i + 1) = if nGood (q i) = (q i).length then stE q i else 2 := by
  have := nGood_le (q i)
  unfold stE
  simp only [stB, Bool.or_eq_true, decide_eq_true_eq]
  by_cases h : nGood (q i) = (q i).length
  · have h2 : ¬ nGood (q i) < (q i).length := by omega
    simp [h]
  · have h2 : nGood (q i) < (q i).length := by omega
    simp [h2, h]

theorem vintWrites_run (l ys : List Nat) (ct : Nat) (hl : ∀ n ∈ l, n < 18446744073709551616) (hy : ∀ b ∈ ys, b < 256) (hc : ct < 256) :
    evFn tt (cut [26, 27] tb) B6 KW 1000 10 6 [.lst l.length (l.map u64A), .lst ys.length (ys.map a8), .v (.int .u8 ct)] [] = some (.v (.bool true), []) := by
  rw [call_cut tb6 rfl]
  by_cases g1 : (40 : Int) < l.length
  · simp [Try.f6, vint_awake6, g1]
  by_cases g2 : (300 : Int) < ys.length
  · simp [Try.f6, vint_awake6, g1, g2]
  obtain ⟨c, hcc⟩ : ∃ c, c = ct % (l.length + 1) := ⟨_, rfl⟩
  have hcl : c ≤ l.length := by have := Nat.mod_lt ct (y := l.length + 1) (by omega); omega
  have w1 : IntKind.i64.wrap ((l.length : Int) + 1) = l.length + 1 := wrapi64 (by omega) (by omega)
  have w2 : IntKind.i64.wrap (ct : Int) = ct := wrapi64 (by omega) (by omega)
  have w3 : Int.tmod (ct : Int) ((l.length : Int) + 1) = (c : Int) := by
    rw [Int.tmod_eq_emod_of_nonneg (by omega), hcc]; simp
  have w4 : IntKind.i64.wrap (c : Int) = c := wrapi64 (by omega) (by omega)
  have z1 : ¬ ((l.length : Int) + 1 = 0) := by omega
  have c1 : (0 : Int) ≤ c := by omega
  have c2 : (c : Int) ≤ l.length := by omega
  simp [Try.f6, vint_awake6, g1, g2, w1, w2, w3, w4, z1, c1, c2, hcl, KW6]
  obtain ⟨q, hq⟩ : ∃ q, q = part l c := ⟨_, rfl⟩
  have hcell : ∀ i, i < 2 → List.take 1 (List.drop i (partsRow l c)) = [.lst (q i).length ((q i).map u64A)] := by rw [hq]; exact parts_at l c
  have hrl : (partsRow l c).length = 2 := rfl
  have hsum : (q 0).length + (q 1).length ≤ 40 := by rw [hq]; simp [part]; omega
  have hql : ∀ i, i < 2 → (q i).length ≤ 40 := fun i hi => by
    rcases (by omega : i = 0 ∨ i = 1) with rfl | rfl <;> omega
  have hWl : ∀ i, i ≤ 2 → (stW q i).length ≤ 320 := by
    have p0 := pre_len (p := q 0) (Nat.le_refl _)
    have p1 := pre_len (p := q 1) (Nat.le_refl _)
    have n0 := nGood_le (q 0)
    have n1 := nGood_le (q 1)
    intro i hi
    rcases (by omega : i = 0 ∨ i = 1 ∨ i = 2) with rfl | rfl | rfl
    · simp [stW]
    · simp [stW]; omega
    · simp [stW]; omega
  rw [evLoop_upto (fun i => if stH q i then ⟨slots 105 [(1, .lst ys.length (ys.map a8)), (7, .ptr 0 0), (8, .sl 2 0 (stW q i).length 1), (9, .v (.bool (stB q i))), (43, .sl 3 0 2 1), (44, .v (.int .i64 2)), (45, .v (.int .i64 i))], [.cells [.sl 1 0 (stW q i).length 1, .v (.int .i64 (stE q i))], .row ((stW q i).map a8), .row ((stW q i).map a8), .row (partsRow l c)]⟩ else ⟨slots 105 [(1, .lst ys.length (ys.map a8)), (7, .ptr 0 0), (8, .sl 1 0 (stW q i).length 1), (9, .v (.bool (stB q i))), (43, .sl 2 0 2 1), (44, .v (.int .i64 2)), (45, .v (.int .i64 i))], [.cells [.v (.slice none 0 0), .v (.int .i64 (stE q i))], .row ((stW q i).map a8), .row (partsRow l c)]⟩) 2 1000 ?_ ?_ (by omega)]
  · have hWb := stW_lt (q := q) (i := 2)
    have hWl2 := hWl 2 (by omega)
    have hnone := stW_none (q := q) (i := 2)
    obtain ⟨e, he⟩ : ∃ e, e = stE q 2 := ⟨_, rfl⟩
    have hne : lenZ (ys.length : Nat) ≠ 0 := by unfold lenZ; split <;> (try split) <;> omega
    have hse := sz_le hne
    rw [← he]
    unfold stE at he
    cases hh : stH q 2 with
    | false =>
      rw [hnone hh]
      have h31 := long31_0 5 ys ([] ++ enc ys.length ++ ys) (by omega) rfl e ([].map a8) (partsRow l c)
      have h32 := bytes32B_0 8 ([] ++ enc ys.length ++ ys) ([] ++ enc ys.length ++ ys ++ ys) ys (by simp [enc_len hne]; omega) rfl e ([].map a8) (partsRow l c)
      have h25 := put25E_0 7 ([] ++ enc ys.length ++ ys ++ ys) ys.length hne e ([].map a8) (partsRow l c)
      have hE := enc_len hne
      have hElt := enc_lt hne
      generalize enc ys.length = E at *
      obtain ⟨M, hM⟩ : ∃ M, M = [] ++ E ++ ys := ⟨_, rfl⟩
      obtain ⟨M', hM2⟩ : ∃ M', M' = M ++ ys := ⟨_, rfl⟩
      have hM' : M' = [] ++ E ++ ys ++ ys := by rw [hM2, hM]
      rw [← hM] at h31 h32 h25
      rw [← hM2] at h32 h25
      simp only [List.map_nil] at h31 h32 h25
      have hrow : E.map a8 ++ (ys.map a8 ++ ys.map a8) = M'.map a8 := by rw [hM']; simp
      have hlen : E.length + ys.length + ys.length = M'.length := by rw [hM']; simp; try omega
      have hMb : ∀ b ∈ M', b < 256 := by
        rw [hM']
        intro b hb
        simp only [List.mem_append] at hb
        rcases hb with ((hb | hb) | hb) | hb
        · cases hb
        · exact hElt b hb
        · exact hy b hb
        · exact hy b hb
      have hMl : M'.length ≤ 2000 := by rw [← hlen]; omega
      have hb1 : E.length ≤ 140737488355328 := by omega
      have hb2 : E.length + ys.length ≤ 140737488355328 := by omega
      have hb3 : M'.length ≤ 140737488355328 := by omega
      have hw : IntKind.u64.wrap (ys.length : Int) = ys.length := wrapu64 (by omega) (by omega)
      have ht1 : List.take (E.length + ys.length) (E.map a8 ++ ys.map a8) = E.map a8 ++ ys.map a8 := List.take_of_length_le (by simp)
      have ht2 := ht1
      have hle3 : 0 + E.length + ys.length ≤ 0 + (E.length + ys.length) := by omega
      clear hM hM2 hM' hcell hrl hql hWl hsum
      cases hbb : stB q 2 with
      | false =>
        have he0 : e = 0 := by rw [he, hbb]; rfl
        subst he0
        have h33 := done33_0 8 M' hMl (M'.map a8) (partsRow l c) (E.map a8)
        have hc1 := conv_row M' hMb 9 [.cells [.sl 4 0 M'.length 1, .v (.int .i64 0)], .dead, .row (partsRow l c), .dead, .row (M'.map a8), .row (E.map a8), .dead, .dead, .row (M'.map a8), .row (M'.map a8)] rfl
        have hc2 := conv_row M' hMb 8 [.cells [.sl 4 0 M'.length 1, .v (.int .i64 0)], .dead, .row (partsRow l c), .dead, .row (M'.map a8), .row (E.map a8), .dead, .dead, .row (M'.map a8), .row (M'.map a8)] rfl
        simp [h31, h32, h25, frz8, tk_all, hw, hrow, hlen, ht1, ht2, hle3, hb1, hb2, hb3, h33, hc1, hc2, undef, conv_u64, -evConvert]
      | true =>
        have he2 : e = 2 := by rw [he, hbb]; rfl
        subst he2
        have h33 := done_err 8 (.sl 4 0 M'.length 1) 2 (by decide) [.dead, .row (partsRow l c), .dead, .row (M'.map a8), .row (E.map a8), .dead, .dead, .row (M'.map a8)]
        simp [h31, h32, h25, frz8, tk_all, hw, hrow, hlen, ht1, ht2, hle3, hb1, hb2, hb3, h33, undef, conv_u64, -evConvert]
    | true =>
      generalize stW q 2 = W at *
      have h31 := long31_1 5 W (by omega) ys (W ++ enc ys.length ++ ys) (by omega) rfl e (W.map a8) (partsRow l c)
      have h32 := bytes32B_1 8 W (W ++ enc ys.length ++ ys) (W ++ enc ys.length ++ ys ++ ys) ys (by simp [enc_len hne]; omega) rfl e (W.map a8) (partsRow l c)
      have h25 := put25E_1 7 W (W ++ enc ys.length ++ ys ++ ys) ys.length hne e (W.map a8) (partsRow l c)
      have hE := enc_len hne
      have hElt := enc_lt hne
      generalize enc ys.length = E at *
      obtain ⟨M, hM⟩ : ∃ M, M = W ++ E ++ ys := ⟨_, rfl⟩
      obtain ⟨M', hM2⟩ : ∃ M', M' = M ++ ys := ⟨_, rfl⟩
      have hM' : M' = W ++ E ++ ys ++ ys := by rw [hM2, hM]
      rw [← hM] at h31 h32 h25
      rw [← hM2] at h32 h25
      
      have hrow : W.map a8 ++ (E.map a8 ++ (ys.map a8 ++ ys.map a8)) = M'.map a8 := by rw [hM']; simp
      have hlen : W.length + E.length + ys.length + ys.length = M'.length := by rw [hM']; simp; try omega
      have hMb : ∀ b ∈ M', b < 256 := by
        rw [hM']
        intro b hb
        simp only [List.mem_append] at hb
        rcases hb with ((hb | hb) | hb) | hb
        · exact hWb b hb
        · exact hElt b hb
        · exact hy b hb
        · exact hy b hb
      have hMl : M'.length ≤ 2000 := by rw [← hlen]; omega
      have hb1 : W.length + E.length ≤ 140737488355328 := by omega
      have hb2 : W.length + E.length + ys.length ≤ 140737488355328 := by omega
      have hb3 : M'.length ≤ 140737488355328 := by omega
      have hw : IntKind.u64.wrap (ys.length : Int) = ys.length := wrapu64 (by omega) (by omega)
      have ht1 : List.take (W.length + E.length) (W.map a8 ++ E.map a8) = W.map a8 ++ E.map a8 := List.take_of_length_le (by simp)
      have ht2 : List.take (W.length + E.length + ys.length) (W.map a8 ++ (E.map a8 ++ ys.map a8)) = W.map a8 ++ (E.map a8 ++ ys.map a8) := List.take_of_length_le (by simp; omega)
      have hle3 : W.length + E.length + ys.length ≤ W.length + (E.length + ys.length) := by omega
      clear hM hM2 hM' hcell hrl hql hWl hsum
      cases hbb : stB q 2 with
      | false =>
        have he0 : e = 0 := by rw [he, hbb]; rfl
        subst he0
        have h33 := done33_1 8 W M' hMl (M'.map a8) (partsRow l c) (E.map a8)
        have hc1 := conv_row M' hMb 10 [.cells [.sl 5 0 M'.length 1, .v (.int .i64 0)], .ro (W.map a8), .dead, .row (partsRow l c), .dead, .row (M'.map a8), .row (E.map a8), .dead, .dead, .row (M'.map a8), .row (M'.map a8)] rfl
        have hc2 := conv_row M' hMb 9 [.cells [.sl 5 0 M'.length 1, .v (.int .i64 0)], .ro (W.map a8), .dead, .row (partsRow l c), .dead, .row (M'.map a8), .row (E.map a8), .dead, .dead, .row (M'.map a8), .row (M'.map a8)] rfl
        simp [h31, h32, h25, frz8, tk_all, hw, hrow, hlen, ht1, ht2, hle3, hb1, hb2, hb3, h33, hc1, hc2, undef, conv_u64, -evConvert]
      | true =>
        have he2 : e = 2 := by rw [he, hbb]; rfl
        subst he2
        have h33 := done_err 8 (.sl 5 0 M'.length 1) 2 (by decide) [.ro (W.map a8), .dead, .row (partsRow l c), .dead, .row (M'.map a8), .row (E.map a8), .dead, .dead, .row (M'.map a8)]
        simp [h31, h32, h25, frz8, tk_all, hw, hrow, hlen, ht1, ht2, hle3, hb1, hb2, hb3, h33, undef, conv_u64, -evConvert]
  · simp [stH, stW, stB, stE, partsRow, part]
    exact ⟨by omega, List.take_of_length_le (by simp)⟩
  · intro i hi
    have hp := hcell i hi
    have hpl := hql i hi
    have hWi := hWl i (by omega)
    have hWs := hWl (i + 1) (by omega)
    have hi2 : (i : Int) < 2 := by omega
    have hi3 : 1 ≤ 2 - i := by omega
    have hi4 : i ≤ 1 := by omega
    have hnext : IntKind.i64.wrap ((i : Int) + 1) = i + 1 := wrapi64 (by omega) (by omega)
    have hg := nGood_le (q i)
    have hend := nGood_end (q i)
    have hgood := nGood_lt (q i)
    have hpre := fun j (hj : j < nGood (q i)) => pre_succ (p := q i) (j := j) (by omega)
    have hprl := fun j (hj : j ≤ nGood (q i)) => pre_len (p := q i) hj
    have he := stE_succ q i
    have hH : stH q (i + 1) = (stH q i || decide (0 < nGood (q i))) := rfl
    have hB : stB q (i + 1) = (stB q i || decide (nGood (q i) < (q i).length)) := rfl
    have hnone := stW_none (q := q) (i := i)
    obtain ⟨V, hV⟩ : ∃ V : Nat → List Nat, V = fun j => stW q i ++ pre (q i) j := ⟨_, rfl⟩
    have hV0 : V 0 = stW q i := by rw [hV]; simp [pre_zero]
    have hVg : stW q (i + 1) = V (nGood (q i)) := by rw [hV]; rfl
    have hVs : ∀ j, j < nGood (q i) → V (j + 1) = V j ++ enc ((q i).getD j 0) := fun j hj => by rw [hV]; simp only [hpre j hj, List.append_assoc]
    have hVl : ∀ j, j ≤ nGood (q i) → (V j).length ≤ 900 := fun j hj => by have := hprl j hj; rw [hV]; simp only [List.length_append]; omega
    generalize stW q (i + 1) = W' at *
    generalize stW q i = W at *
    generalize stE q (i + 1) = e' at *
    generalize stE q i = e at *
    generalize stB q (i + 1) = b' at *
    generalize stB q i = b at *
    generalize stH q (i + 1) = x' at *
    generalize nGood (q i) = g at *
    generalize q i = p at *
    have hstep : ∀ j, j < g → j < p.length ∧ List.take 1 (List.drop j (p.map u64A)) = [u64A (p.getD j 0)] ∧ (j : Int) < p.length ∧ 1 ≤ p.length - j ∧ (V j).length + (enc (p.getD j 0)).length = (V (j + 1)).length ∧ (V j).map a8 ++ (enc (p.getD j 0)).map a8 = (V (j + 1)).map a8 ∧ IntKind.i64.wrap ((j : Int) + 1) = j + 1 ∧ (V (j + 1)).length ≤ 140737488355328 := fun j hj => by
      have h1 : j < p.length := by omega
      have := hVl (j + 1) (by omega)
      exact ⟨h1, take_u64 h1, by omega, by omega, by rw [hVs j hj, List.length_append], by rw [hVs j hj, List.map_append], wrapi64 (by omega) (by omega), by omega⟩
    cases hh : stH q i with
    | false =>
      have hW0 := hnone hh
      rw [hh] at hH
      have h30 := int30_nil 6 p g hg hpl hgood V (by rw [hV0, hW0]) hVs hVl e (W.map a8) (partsRow l c) hend
      rw [← he] at h30
      by_cases hg0 : g = 0
      · simp only [after0, if_pos hg0] at h30
        have hx : x' = false := by rw [hH, hg0]; rfl
        subst hg0
        simp [hi2, hi3, hi4, hrl, hp, h30, KW6b]
        rw [evLoop_upto (fun j => ⟨slots 105 [(1, .lst ys.length (ys.map a8)), (7, .ptr 0 0), (8, .sl 1 0 (V j).length 1), (9, .v (.bool b)), (43, .sl 2 0 2 1), (44, .v (.int .i64 2)), (45, .v (.int .i64 i)), (52, .lst p.length (p.map u64A)), (53, .v (.int .i64 p.length)), (54, .v (.int .i64 j))], [.cells [.v (.slice none 0 0), .v (.int .i64 e')], .row ((V j).map a8), .row (partsRow l c)]⟩) 0 1000 ?_ ?_ (by omega)]
        · rcases hend with hge | ⟨k1, k2⟩
          · have hz : p.length = 0 := hge.symm
            simp [hz, hVg, hV0, hB, hnext, hi2, hi4, hx]
          · have htk := take_u64 k1
            have k3 : (0 : Int) < p.length := by omega
            have k4 : 1 ≤ p.length := by omega
            generalize p.getD 0 0 = n at *
            have hn := put25_err 7 n k2
            simp at htk
            simp [k3, k4, htk, u64A, hn, hVg, hV0, hB, hnext, k1, hi2, hi4, hx]
        · simp [hV0, hx]
        · intro j hj
          exact absurd hj (Nat.not_lt_zero _)
      · simp only [after0, if_neg hg0] at h30
        have hx : x' = true := by rw [hH]; simp; omega
        simp [hi2, hi3, hi4, hrl, hp, h30, KW6b, hg0]
        rw [evLoop_upto (fun j => ⟨slots 105 [(1, .lst ys.length (ys.map a8)), (7, .ptr 0 0), (8, .sl 2 0 (V j).length 1), (9, .v (.bool b)), (43, .sl 3 0 2 1), (44, .v (.int .i64 2)), (45, .v (.int .i64 i)), (52, .lst p.length (p.map u64A)), (53, .v (.int .i64 p.length)), (54, .v (.int .i64 j))], [.cells [.sl 1 0 (V g).length 1, .v (.int .i64 e')], .row ((V g).map a8), .row ((V j).map a8), .row (partsRow l c)]⟩) g 1000 ?_ ?_ (by omega)]
        · rcases hend with hge | ⟨k1, k2⟩
          · subst hge
            simp [hVg, hB, hnext, hi2, hi4, hx, hg0]
          · have htk := take_u64 k1
            have k3 : (g : Int) < p.length := by omega
            have k4 : 1 ≤ p.length - g := by omega
            generalize p.getD g 0 = n at *
            have hn := put25_err 7 n k2
            simp [k3, k4, htk, u64A, hn, hVg, hB, hnext, k1, hi2, hi4, hx, hg0]
        · simp [hV0, hx, hg0]
        · intro j hj
          obtain ⟨k1, htk, k3, k4, k5, k6, k7, k8⟩ := hstep j hj
          have hg1 := hgood j hj
          generalize p.getD j 0 = n at *
          have hn := put25I_1 7 (V g) n hg1 e' ((V j).map a8) (partsRow l c)
          simp [k1, k3, k4, htk, u64A, hn, frz8, k5, k6, k7, k8, tk_all, undef]
    | true =>
      rw [hh] at hH
      have hx : x' = true := by rw [hH]; rfl
      have h30 := int30_row 6 p g hg hpl hgood V hVs hVl e (W.map a8) (partsRow l c) hend
      rw [← he] at h30
      by_cases hg0 : g = 0
      · simp only [after1, if_pos hg0, hV0] at h30
        subst hg0
        simp [hi2, hi3, hi4, hrl, hp, h30, KW6b]
        rw [evLoop_upto (fun j => ⟨slots 105 [(1, .lst ys.length (ys.map a8)), (7, .ptr 0 0), (8, .sl 2 0 (V j).length 1), (9, .v (.bool b)), (43, .sl 3 0 2 1), (44, .v (.int .i64 2)), (45, .v (.int .i64 i)), (52, .lst p.length (p.map u64A)), (53, .v (.int .i64 p.length)), (54, .v (.int .i64 j))], [.cells [.sl 1 0 (W).length 1, .v (.int .i64 e')], .row ((W).map a8), .row ((V j).map a8), .row (partsRow l c)]⟩) 0 1000 ?_ ?_ (by omega)]
        · rcases hend with hge | ⟨k1, k2⟩
          · have hz : p.length = 0 := hge.symm
            simp [hz, hVg, hV0, hB, hnext, hi2, hi4, hx]
          · have htk := take_u64 k1
            have k3 : (0 : Int) < p.length := by omega
            have k4 : 1 ≤ p.length := by omega
            generalize p.getD 0 0 = n at *
            have hn := put25_err 7 n k2
            simp at htk
            simp [k3, k4, htk, u64A, hn, hVg, hV0, hB, hnext, k1, hi2, hi4, hx]
        · simp [hV0, hx]
        · intro j hj
          exact absurd hj (Nat.not_lt_zero _)
      · simp only [after1, if_neg hg0, hV0] at h30
        simp [hi2, hi3, hi4, hrl, hp, h30, KW6b, hg0]
        rw [evLoop_upto (fun j => ⟨slots 105 [(1, .lst ys.length (ys.map a8)), (7, .ptr 0 0), (8, .sl 2 0 (V j).length 1), (9, .v (.bool b)), (43, .sl 3 0 2 1), (44, .v (.int .i64 2)), (45, .v (.int .i64 i)), (52, .lst p.length (p.map u64A)), (53, .v (.int .i64 p.length)), (54, .v (.int .i64 j))], [.cells [.sl 1 0 (V g).length 1, .v (.int .i64 e')], .row ((V g).map a8), .row ((V j).map a8), .row (partsRow l c)]⟩) g 1000 ?_ ?_ (by omega)]
        · rcases hend with hge | ⟨k1, k2⟩
          · subst hge
            simp [hVg, hB, hnext, hi2, hi4, hx, hg0]
          · have htk := take_u64 k1
            have k3 : (g : Int) < p.length := by omega
            have k4 : 1 ≤ p.length - g := by omega
            generalize p.getD g 0 = n at *
            have hn := put25_err 7 n k2
            simp [k3, k4, htk, u64A, hn, hVg, hB, hnext, k1, hi2, hi4, hx, hg0]
        · simp [hV0, hx, hg0]
        · intro j hj
          obtain ⟨k1, htk, k3, k4, k5, k6, k7, k8⟩ := hstep j hj
          have hg1 := hgood j hj
          generalize p.getD j 0 = n at *
          have hn := put25I_1 7 (V g) n hg1 e' ((V j).map a8) (partsRow l c)
          simp [k1, k3, k4, htk, u64A, hn, frz8, k5, k6, k7, k8, tk_all, undef]
theorem nums_nat {zs : List Int} (h : ∀ n ∈ zs, (Lit.int .u64 n).wf = true) : ∃ xs : List Nat, zs.length = xs.length ∧ zs.map (intA .u64) = xs.map u64A ∧ ∀ n ∈ xs, n < 18446744073709551616 := by
  have hb : ∀ n ∈ zs, 0 ≤ n ∧ n < 18446744073709551616 := fun n hn => by
    have := h n hn
    simp [Lit.wf, IntKind.min, IntKind.max, IntKind.signed, IntKind.bits] at this
    omega
  refine ⟨zs.map Int.toNat, by simp, ?_, fun n hn => ?_⟩
  · rw [List.map_map]
    refine List.map_congr_left fun n hn => ?_
    have := hb n hn
    simp only [u64A, intA, Function.comp]
    congr 2
    omega
  · obtain ⟨z, hz, rfl⟩ := List.mem_map.1 hn
    have := hb z hz
    omega
theorem byte_nat {z : Int} (h : (Lit.int .u8 z).wf = true) : ∃ n : Nat, z = n ∧ n < 256 := by
  simp [Lit.wf, IntKind.min, IntKind.max, IntKind.signed, IntKind.bits] at h
  exact ⟨z.toNat, by omega, by omega⟩
theorem vintWrites_out {zs xs : List Int} {ct : Int} (hz : ∀ n ∈ zs, (Lit.int .u64 n).wf = true) (hx : ∀ n ∈ xs, (Lit.int .u8 n).wf = true) (hc : (Lit.int .u8 ct).wf = true) :
    evFn tt (cut [26, 27] tb) B6 KW 1000 10 6 [.lst zs.length (zs.map (intA .u64)), .lst xs.length (xs.map (intA .u8)), intA .u8 ct] [] = some (.v (.bool true), []) := by
  obtain ⟨l, h1, h2, h3⟩ := nums_nat hz
  obtain ⟨ys, h4, h5, h6⟩ := bytes_nat hx
  obtain ⟨c, rfl, hc2⟩ := byte_nat hc
  rw [h1, h2, h4, h5]
  exact vintWrites_run l ys c h3 h6 hc2
end Go.Flat
