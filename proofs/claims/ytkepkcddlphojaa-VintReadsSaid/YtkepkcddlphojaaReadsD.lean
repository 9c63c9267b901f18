/-
  The run of the law VintReads over the plain view of memory: it answers true. No condition.
-/
import Derived.Test.YtkepkcddlphojaaReadsB
import Derived.Test.YtkepkcddlphojaaStrRun
import Derived.Test.YtkepkcddlphojaaFlatU
import Derived.Test.YtkepkcddlphojaaFlatR
namespace Go.Flat
open Go.Proofs
set_option linter.unusedSimpArgs false
set_option linter.unusedVariables false
set_option maxRecDepth 100000
set_option maxHeartbeats 80000000

def KR : FuncId → Nat → List Nat
  | 9, 12 => [2, 7, 8, 9, 10, 11, 12, 13, 33, 34, 35]
  | f, r => KT f r
theorem KR9 : KR 9 12 = [2, 7, 8, 9, 10, 11, 12, 13, 33, 34, 35] := rfl
theorem vint_awake9 : evFn tt (cut [28, 29] tb) B9 KR 1000 9 21 [] [] = some (.v (.bool true), []) := by kernel_rfl

def i64A (n : Int) : A := .v (.int .i64 n)
def stepN (a : Nat) (k : Int) (s : Rd) : Rd :=
  if a % 8 = 0 ∨ a % 8 = 1 then (intN s).2
  else if a % 8 = 2 then (leastN s).2
  else if a % 8 = 3 then (countN k s).2
  else if a % 8 = 4 then (bytesN k s).2
  else if a % 8 = 5 then (bytesN 1 s).2
  else if a % 8 = 6 then (bytesN (countN k s).1 (countN k s).2).2
  else if a = 255 then failN 5 s else s
theorem step_fine {s : Rd} (a : Nat) (k : Int) (h : s.fine) : (stepN a k s).fine := by
  unfold stepN
  split
  · exact (int_fine h).1
  split
  · exact least_fine h
  split
  · exact count_fine k h
  split
  · exact bytes_fine k h
  split
  · exact bytes_fine 1 h
  split
  · exact bytes_fine _ (count_fine k h)
  split
  · exact fail_fine 5 (by decide) h
  · exact h
def kAt (ns : List Int) (i : Nat) : Int := if i < ns.length then ns.getD i 0 else 3
def stR (b acts : List Nat) (ns : List Int) : Nat → Rd
  | 0 => .good b
  | i + 1 => stepN (acts.getD i 0) (kAt ns i) (stR b acts ns i)
theorem st_fine {b acts : List Nat} {ns : List Int} (hb : ∀ n ∈ b, n < 256) (hl : b.length ≤ 200) : ∀ i, (stR b acts ns i).fine
  | 0 => ⟨hb, hl⟩
  | i + 1 => step_fine _ _ (st_fine hb hl i)
theorem take_i64 {xs : List Int} {i : Nat} (hi : i < xs.length) : List.take 1 (List.drop i (List.map i64A xs)) = [i64A (xs.getD i 0)] := by
  rw [List.drop_eq_getElem_cons (by simpa using hi)]
  simp [List.getD_eq_getElem?_getD, hi]
theorem len_lA (s : Rd) (h : List Ob) : evLen tt 31 (lA s) h = some (.v (.int .i64 (lenN s))) := by cases s <;> simp [lenN]
theorem len_31 (n : Nat) (cs : List A) (h : List Ob) : evLen tt 31 (.lst n cs) h = some (.v (.int .i64 n)) := by simp
theorem len_37 (n : Nat) (cs : List A) (h : List Ob) : evLen tt 37 (.lst n cs) h = some (.v (.int .i64 n)) := by simp
theorem len_nil (h : List Ob) : evLen tt 31 (.v (.slice none 0 0)) h = some (.v (.int .i64 0)) := by simp
theorem conv_nil (h : List Ob) : evConvert tt 31 9 (.v (.slice none 0 0)) h = some (.v (.string (strOf [])), h) := by
  simp only [evConvert, tt31, tt9, tt5]
  rfl
theorem conv_cA (k : Int) (s : Rd) (hs : s.fine) (h : List Ob) : evConvert tt 31 9 (cA k s) h = some (.v (.string (strOf (bytesN k s).1)), h) := by
  cases s with
  | bad e => exact conv_nil h
  | good L =>
    simp only [cA, bytesN]
    split
    · exact conv_nil h
    · rename_i hk
      have hx : ∀ b ∈ L.take k.toNat, b < 256 := fun b hb => hs.1 b (List.mem_of_mem_take hb)
      have := conv_lst (L.take k.toNat) hx h
      rw [List.length_take, Nat.min_eq_left (by omega)] at this
      exact this
theorem conv_bA (k : Int) (s : Rd) (hs : s.fine) (c0 c1 c2 c3 c4 : Ob) : evConvert tt 31 9 (bA 5 k s) (c0 :: c1 :: c2 :: c3 :: c4 :: bO k s) = some (.v (.string (strOf (bytesN k s).1)), c0 :: c1 :: c2 :: c3 :: c4 :: bO k s) := by
  cases s with
  | bad e => exact conv_nil _
  | good L =>
    simp only [bA, bO, bytesN]
    split
    · exact conv_nil _
    · rename_i hk
      have hx : ∀ b ∈ L.take k.toNat, b < 256 := fun b hb => hs.1 b (List.mem_of_mem_take hb)
      have := conv_row (L.take k.toNat) hx 5 [c0, c1, c2, c3, c4, .row ((L.take k.toNat).map a8)] rfl
      rw [List.length_take, Nat.min_eq_left (by omega)] at this
      exact this
theorem ids_bO (k : Int) (s : Rd) : List.flatMap idsOb (bO k s) = [] := by
  cases s with
  | bad e => rfl
  | good L =>
    simp only [bO]
    split <;> rfl

theorem vintReads_run (b acts : List Nat) (ns : List Int) (hb : ∀ n ∈ b, n < 256) (ha : ∀ n ∈ acts, n < 256) (hn : ∀ n ∈ ns, -9223372036854775808 ≤ n ∧ n < 9223372036854775808) :
    evFn tt (cut [28, 29] tb) B9 KR 1000 10 9 [.lst b.length (b.map a8), .lst acts.length (acts.map a8), .lst ns.length (ns.map i64A)] [] = some (.v (.bool true), []) := by
  rw [call_cut tb9 rfl, ev_bodyT _ _ _ _ (by simp [Try.f9])]
  by_cases g1 : (200 : Int) < b.length
  · simp [Try.f9, vint_awake9, g1]
  have h46 : evFn tt (cut [28, 29] tb) B9 KR 1000 9 46 [.lst b.length (b.map a8)] [] = some (.ptr 0 0, [.cells [.lst b.length (b.map a8), .v (.int .i64 0)]]) := by
    rw [call_cut tb46 rfl]
    simp [Try.f46]
  simp [Try.f9, vint_awake9, g1, h46, KR9]
  have hbl : b.length ≤ 200 := by omega
  rw [evLoop_upto (fun i => ⟨plc 166 .any [(2, .lst ns.length (ns.map i64A)), (7, .ptr 0 0), (8, .ptr 1 0), (9, .ptr 2 0), (10, .ptr 3 0), (11, .ptr 4 0), (12, .fn 49 [.ptr 4 0, .ptr 3 0]), (13, .fn 50 [.ptr 2 0, .ptr 1 0, .ptr 3 0]), (33, .lst acts.length (acts.map a8)), (34, .v (.int .i64 acts.length)), (35, .v (.int .i64 i))], Hh (stR b acts ns i) (stR b acts ns i) []⟩) (min acts.length 60) 1000 ?_ ?_ (by omega)]
  · have hs := st_fine (acts := acts) (ns := ns) hb hbl (min acts.length 60)
    generalize stR b acts ns (min acts.length 60) = s at *
    have fe := r_end (K := KR) (m := 1000) (d := 7) s (endN s) hs
    have fl := r_left (K := KR) (m := 1000) (d := 8) (endN s) (endN s) []
    have ff := w_fail (K := KR) (m := 1000) (d := 8) 24 s s [] hs
    have key : ∀ i : Nat, i = min acts.length 60 → (i < acts.length ∧ (i : Int) = 60 ∧ (i : Int) < acts.length ∧ 1 ≤ acts.length - i) ∨ (¬ (i : Int) < acts.length) := by omega
    obtain ⟨i, hi⟩ : ∃ i, i = min acts.length 60 := ⟨_, rfl⟩
    have hk := key i hi
    rw [← hi]
    clear hi key
    cases s with
    | bad e =>
      have h0 : ¬ e = 0 := hs
      simp only [endN, failN, lenN, eN_bad] at fe fl ff
      simp only [Hh, eN_bad, lA_bad] at fe fl ff ⊢
      rcases hk with ⟨k1, k2, k3, k4⟩ | k1
      · obtain rfl : i = 60 := by omega
        have k3 : (60 : Int) < acts.length := by omega
        have hta := take_a8 k1
        generalize acts.getD 60 0 = a at *
        rw [show a8 a = .v (.int .u8 a) from rfl] at hta
        simp [k1, k3, k4, hta, fe, fl, ff, h0, undef]
      · simp [k1, fe, fl, ff, h0, undef]
    | good L =>
      cases L with
      | nil =>
        simp only [endN, failN, lenN, eN_good, eN_bad] at fe fl ff
        simp only [Hh, eN_good, eN_bad, lA_good, lA_bad] at fe fl ff ⊢
        simp at fe fl ff
        rcases hk with ⟨k1, k2, k3, k4⟩ | k1
        · obtain rfl : i = 60 := by omega
          have k3 : (60 : Int) < acts.length := by omega
          have hta := take_a8 k1
          generalize acts.getD 60 0 = a at *
          rw [show a8 a = .v (.int .u8 a) from rfl] at hta
          simp [k1, k3, k4, hta, fe, fl, ff, undef]
        · simp [k1, fe, fl, ff, undef]
      | cons x r =>
        have hp : (0 : Int) < (r.length : Int) + 1 := by omega
        simp only [endN, failN, lenN, eN_good, eN_bad] at fe fl ff
        simp only [Hh, eN_good, eN_bad, lA_good, lA_bad] at fe fl ff ⊢
        simp [a8] at fe fl ff
        rcases hk with ⟨k1, k2, k3, k4⟩ | k1
        · obtain rfl : i = 60 := by omega
          have k3 : (60 : Int) < acts.length := by omega
          have hta := take_a8 k1
          generalize acts.getD 60 0 = a at *
          rw [show a8 a = .v (.int .u8 a) from rfl] at hta
          simp [k1, k3, k4, hta, fe, fl, ff, hp, a8]
        · simp [k1, fe, fl, ff, hp, a8]
  · simp [Hh, stR, -clean]
  · intro i hi
    have hs := st_fine (acts := acts) (ns := ns) hb hbl i
    have hst : stR b acts ns (i + 1) = stepN (acts.getD i 0) (kAt ns i) (stR b acts ns i) := rfl
    have hs1 := st_fine (acts := acts) (ns := ns) hb hbl (i + 1)
    rw [hst] at hs1 ⊢
    generalize stR b acts ns i = s at *
    have h1 : i < acts.length := by omega
    have h2 : (i : Int) < acts.length := by omega
    have h3 : 1 ≤ acts.length - i := by omega
    have h4 : ¬ 60 ≤ (i : Int) := by omega
    have hta := take_a8 h1
    have hnext : IntKind.i64.wrap ((i : Int) + 1) = i + 1 := wrapi64 (by omega) (by omega)
    have ha1 := getD_lt ha (by decide) i
    have hkb : kAt ns i < 9223372036854775808 := by
      unfold kAt
      split
      · rename_i hni
        have hm : ns[i] ∈ ns := List.getElem_mem hni
        rw [List.getD_eq_getElem?_getD, List.getElem?_eq_getElem hni]
        exact (hn _ hm).2
      · decide
    have hkr : (i < ns.length ∧ List.take 1 (List.drop i (ns.map i64A)) = [i64A (kAt ns i)]) ∨ (¬ i < ns.length ∧ kAt ns i = 3) := by
      by_cases hni : i < ns.length
      · exact Or.inl ⟨hni, by rw [take_i64 hni]; simp [kAt, hni]⟩
      · exact Or.inr ⟨hni, by simp [kAt, hni]⟩
    generalize acts.getD i 0 = a at *
    generalize kAt ns i = k at *
    have hm8 : a % 8 < 8 := Nat.mod_lt _ (by decide)
    have hrem : Int.tmod (a : Int) 8 = ((a % 8 : Nat) : Int) := by rw [Int.tmod_eq_emod_of_nonneg (by omega)]; omega
    have hwm : IntKind.u8.wrap ((a % 8 : Nat) : Int) = ((a % 8 : Nat) : Int) := by rw [w8]; omega
    have u8a : a8 a = .v (.int .u8 a) := rfl
    have u64k : i64A k = .v (.int .i64 k) := rfl
    rw [u8a] at hta
    rw [u64k] at hkr
    have he := fun R => r_err (K := KR) (m := 1000) (d := 8) (stepN a k s) (stepN a k s) R
    have hl := fun R => r_left (K := KR) (m := 1000) (d := 8) (stepN a k s) (stepN a k s) R
    rcases (by omega : a % 8 = 0 ∨ a % 8 = 1 ∨ a % 8 = 2 ∨ a % 8 = 3 ∨ a % 8 = 4 ∨ a % 8 = 5 ∨ a % 8 = 6 ∨ a % 8 = 7) with hmod | hmod | hmod | hmod | hmod | hmod | hmod | hmod
    · have hs0 : stepN a k s = (intN s).2 := by simp [stepN, hmod]
      rw [hs0] at he hl
      have f1 := r_int (K := KR) (m := 1000) (d := 7) s s hs
      have f2 := w_int (K := KR) (m := 1000) (d := 7) (intN s).2 s [] hs
      generalize intN s = p at *
      obtain ⟨n, s1⟩ := p
      simp only [Hh] at f1 f2 he hl ⊢
      rcases hkr with ⟨k1, k2⟩ | ⟨k1, rfl⟩
      · have k3 : (i : Int) < ns.length := by omega
        have k4 : 1 ≤ ns.length - i := by omega
        simp [hta, hrem, hwm, hmod, h1, h2, h3, h4, hnext, len_lA, len_31, len_37, len_nil, hs0, undef, -evLen, -clean, k1, k2, k3, k4, f1, f2, he, hl]
      · have k3 : ¬ (i : Int) < ns.length := by omega
        simp [hta, hrem, hwm, hmod, h1, h2, h3, h4, hnext, len_lA, len_31, len_37, len_nil, hs0, undef, -evLen, -clean, k1, k3, f1, f2, he, hl]
    · have hs0 : stepN a k s = (intN s).2 := by simp [stepN, hmod]
      rw [hs0] at he hl
      have f1 := r_int (K := KR) (m := 1000) (d := 7) s s hs
      have f2 := w_int (K := KR) (m := 1000) (d := 7) (intN s).2 s [] hs
      generalize intN s = p at *
      obtain ⟨n, s1⟩ := p
      simp only [Hh] at f1 f2 he hl ⊢
      rcases hkr with ⟨k1, k2⟩ | ⟨k1, rfl⟩
      · have k3 : (i : Int) < ns.length := by omega
        have k4 : 1 ≤ ns.length - i := by omega
        simp [hta, hrem, hwm, hmod, h1, h2, h3, h4, hnext, len_lA, len_31, len_37, len_nil, hs0, undef, -evLen, -clean, k1, k2, k3, k4, f1, f2, he, hl]
      · have k3 : ¬ (i : Int) < ns.length := by omega
        simp [hta, hrem, hwm, hmod, h1, h2, h3, h4, hnext, len_lA, len_31, len_37, len_nil, hs0, undef, -evLen, -clean, k1, k3, f1, f2, he, hl]
    · have hs0 : stepN a k s = (leastN s).2 := by simp [stepN, hmod]
      rw [hs0] at he hl
      have f1 := w_int (K := KR) (m := 1000) (d := 7) s s [] hs
      have hb1 := int_fine hs
      have b1 := len_le hs
      have b2 := len_le hb1.1
      have f2 := w_fail (K := KR) (m := 1000) (d := 8) 4 s (intN s).2 [] hb1.1
      have f3 := r_least (K := KR) (m := 1000) (d := 6) s (leastN s).2 hs
      have hn1 := fun (n : Int) H => len23c [28, 29] rfl B9 KR 1000 8 n H
      have hw : IntKind.i64.wrap (lenN s - lenN (intN s).2) = lenN s - lenN (intN s).2 := wrapi64 (by omega) (by omega)
      have hls : leastN s = if eN (intN s).2 = 0 ∧ ¬ lenN s - lenN (intN s).2 = lenZ (intN s).1 then (0, failN 4 (intN s).2) else intN s := rfl
      generalize intN s = p at *
      obtain ⟨n, s1⟩ := p
      simp only at f1 f2 hw hls
      by_cases q1 : eN s1 = 0
      · by_cases q2 : lenN s - lenN s1 = lenZ n
        · have q3 : leastN s = (n, s1) := by rw [hls]; simp [q2]
          rw [q3] at f3 he hl hs0
          rw [q2] at hw
          simp only [Hh, q1] at f1 f3 he hl ⊢
          rcases hkr with ⟨k1, k2⟩ | ⟨k1, rfl⟩
          · have k3 : (i : Int) < ns.length := by omega
            have k4 : 1 ≤ ns.length - i := by omega
            simp [hta, hrem, hwm, hmod, h1, h2, h3, h4, hnext, len_lA, len_31, len_37, len_nil, hs0, undef, -evLen, -clean, k1, k2, k3, k4, f1, f3, he, hl, hn1, hw, q1, q2]
          · have k3 : ¬ (i : Int) < ns.length := by omega
            simp [hta, hrem, hwm, hmod, h1, h2, h3, h4, hnext, len_lA, len_31, len_37, len_nil, hs0, undef, -evLen, -clean, k1, k3, f1, f3, he, hl, hn1, hw, q1, q2]
        · have q3 : leastN s = (0, failN 4 s1) := by rw [hls]; simp [q1, q2]
          rw [q3] at f3 he hl hs0
          simp only [Hh, q1] at f1 f2 f3 he hl ⊢
          rcases hkr with ⟨k1, k2⟩ | ⟨k1, rfl⟩
          · have k3 : (i : Int) < ns.length := by omega
            have k4 : 1 ≤ ns.length - i := by omega
            simp [hta, hrem, hwm, hmod, h1, h2, h3, h4, hnext, len_lA, len_31, len_37, len_nil, hs0, undef, -evLen, -clean, k1, k2, k3, k4, f1, f2, f3, he, hl, hn1, hw, q1, q2]
          · have k3 : ¬ (i : Int) < ns.length := by omega
            simp [hta, hrem, hwm, hmod, h1, h2, h3, h4, hnext, len_lA, len_31, len_37, len_nil, hs0, undef, -evLen, -clean, k1, k3, f1, f2, f3, he, hl, hn1, hw, q1, q2]
      · have q3 : leastN s = (n, s1) := by rw [hls]; simp [q1]
        rw [q3] at f3 he hl hs0
        simp only [Hh] at f1 f3 he hl ⊢
        rcases hkr with ⟨k1, k2⟩ | ⟨k1, rfl⟩
        · have k3 : (i : Int) < ns.length := by omega
          have k4 : 1 ≤ ns.length - i := by omega
          simp [hta, hrem, hwm, hmod, h1, h2, h3, h4, hnext, len_lA, len_31, len_37, len_nil, hs0, undef, -evLen, -clean, k1, k2, k3, k4, f1, f3, he, hl, hn1, hw, q1]
        · have k3 : ¬ (i : Int) < ns.length := by omega
          simp [hta, hrem, hwm, hmod, h1, h2, h3, h4, hnext, len_lA, len_31, len_37, len_nil, hs0, undef, -evLen, -clean, k1, k3, f1, f3, he, hl, hn1, hw, q1]
    · have hs0 : stepN a k s = (countN k s).2 := by simp [stepN, hmod]
      rw [hs0] at he hl
      have f1 := r_count (K := KR) (m := 1000) (d := 6) k s s hs hkb
      have f2 := w_count (K := KR) (m := 1000) (d := 6) k (countN k s).2 s [] hs hkb
      generalize countN k s = p at *
      obtain ⟨n, s1⟩ := p
      simp only [Hh] at f1 f2 he hl ⊢
      rcases hkr with ⟨k1, k2⟩ | ⟨k1, rfl⟩
      · have k3 : (i : Int) < ns.length := by omega
        have k4 : 1 ≤ ns.length - i := by omega
        simp [hta, hrem, hwm, hmod, h1, h2, h3, h4, hnext, len_lA, len_31, len_37, len_nil, hs0, undef, -evLen, -clean, k1, k2, k3, k4, f1, f2, he, hl]
      · have k3 : ¬ (i : Int) < ns.length := by omega
        simp [hta, hrem, hwm, hmod, h1, h2, h3, h4, hnext, len_lA, len_31, len_37, len_nil, hs0, undef, -evLen, -clean, k1, k3, f1, f2, he, hl]
    · have hs0 : stepN a k s = (bytesN k s).2 := by simp [stepN, hmod]
      rw [hs0] at he hl
      have f1 := r_bytes (K := KR) (m := 1000) (d := 7) k s s hs
      have f2 := w_bytes (K := KR) (m := 1000) (d := 7) k (bytesN k s).2 s (bO k s) hs
      have hcb := conv_bA k s hs
      have hcc := conv_cA k s hs
      generalize bytesN k s = p at *
      obtain ⟨n, s1⟩ := p
      simp only [Hh] at f1 f2 he hl ⊢
      generalize bA 5 k s = bb at *
      generalize bO k s = oo at *
      generalize cA k s = cc at *
      rcases hkr with ⟨k1, k2⟩ | ⟨k1, rfl⟩
      · have k3 : (i : Int) < ns.length := by omega
        have k4 : 1 ≤ ns.length - i := by omega
        simp [hta, hrem, hwm, hmod, h1, h2, h3, h4, hnext, len_lA, len_31, len_37, len_nil, hs0, undef, -evLen, -clean, k1, k2, k3, k4, f1, f2, he, hl, hcb, hcc, -evConvert]
      · have k3 : ¬ (i : Int) < ns.length := by omega
        simp [hta, hrem, hwm, hmod, h1, h2, h3, h4, hnext, len_lA, len_31, len_37, len_nil, hs0, undef, -evLen, -clean, k1, k3, f1, f2, he, hl, hcb, hcc, -evConvert]
    · have hs0 : stepN a k s = (bytesN 1 s).2 := by simp [stepN, hmod]
      rw [hs0] at he hl
      have f1 := w_bytes (K := KR) (m := 1000) (d := 7) 1 s s [] hs
      have f2 := r_byte (K := KR) (m := 1000) (d := 6) s (bytesN 1 s).2 hs
      cases s with
      | bad e =>
        simp only [bytesN, cA] at f1 f2 he hl hs0 ⊢
        simp only [Hh, lA_bad, eN_bad, lenN] at f1 f2 he hl ⊢
        rcases hkr with ⟨k1, k2⟩ | ⟨k1, rfl⟩
        · have k3 : (i : Int) < ns.length := by omega
          have k4 : 1 ≤ ns.length - i := by omega
          simp [hta, hrem, hwm, hmod, h1, h2, h3, h4, hnext, len_lA, len_31, len_37, len_nil, hs0, undef, -evLen, -clean, k1, k2, k3, k4, f1, f2, he, hl]
        · have k3 : ¬ (i : Int) < ns.length := by omega
          simp [hta, hrem, hwm, hmod, h1, h2, h3, h4, hnext, len_lA, len_31, len_37, len_nil, hs0, undef, -evLen, -clean, k1, k3, f1, f2, he, hl]
      | good L =>
        cases L with
        | nil =>
          simp only [bytesN, cA] at f1 f2 he hl hs0 ⊢
          simp at f1 f2 he hl hs0
          simp only [Hh] at f1 f2 he hl ⊢
          simp at f1 f2 he hl
          rcases hkr with ⟨k1, k2⟩ | ⟨k1, rfl⟩
          · have k3 : (i : Int) < ns.length := by omega
            have k4 : 1 ≤ ns.length - i := by omega
            simp [hta, hrem, hwm, hmod, h1, h2, h3, h4, hnext, len_lA, len_31, len_37, len_nil, hs0, undef, -evLen, -clean, k1, k2, k3, k4, f1, f2, he, hl, lenN]
          · have k3 : ¬ (i : Int) < ns.length := by omega
            simp [hta, hrem, hwm, hmod, h1, h2, h3, h4, hnext, len_lA, len_31, len_37, len_nil, hs0, undef, -evLen, -clean, k1, k3, f1, f2, he, hl, lenN]
        | cons x r =>
          have q1 : ¬ ((1 : Int) < 0 ∨ ((x :: r).length : Int) < 1) := by simp; omega
          simp only [bytesN, cA, if_neg q1] at f1 f2 he hl hs0
          simp only [Hh] at f1 f2 he hl ⊢
          simp [a8] at f1 f2 he hl hs0
          rcases hkr with ⟨k1, k2⟩ | ⟨k1, rfl⟩
          · have k3 : (i : Int) < ns.length := by omega
            have k4 : 1 ≤ ns.length - i := by omega
            simp [hta, hrem, hwm, hmod, h1, h2, h3, h4, hnext, len_lA, len_31, len_37, len_nil, hs0, undef, -evLen, -clean, k1, k2, k3, k4, f1, f2, he, hl, a8, lenN]
          · have k3 : ¬ (i : Int) < ns.length := by omega
            simp [hta, hrem, hwm, hmod, h1, h2, h3, h4, hnext, len_lA, len_31, len_37, len_nil, hs0, undef, -evLen, -clean, k1, k3, f1, f2, he, hl, a8, lenN]
    · have hs0 : stepN a k s = (bytesN (countN k s).1 (countN k s).2).2 := by simp [stepN, hmod]
      rw [hs0] at he hl
      have f1 := r_long (K := KR) (m := 1000) (d := 5) k s s hs hkb
      have hf := count_fine k hs
      have f2 := w_count (K := KR) (m := 1000) (d := 6) k (bytesN (countN k s).1 (countN k s).2).2 s (bO (countN k s).1 (countN k s).2) hs hkb
      have f3 := w_bytes (K := KR) (m := 1000) (d := 7) (countN k s).1 (bytesN (countN k s).1 (countN k s).2).2 (countN k s).2 (bO (countN k s).1 (countN k s).2) hf
      have hcb := conv_bA (countN k s).1 (countN k s).2 hf
      have hcc := conv_cA (countN k s).1 (countN k s).2 hf
      generalize countN k s = p at *
      obtain ⟨n, s1⟩ := p
      simp only at f1 f2 f3 hcb hcc he hl ⊢
      generalize bytesN n s1 = p at *
      obtain ⟨l2, s2⟩ := p
      simp only [Hh] at f1 f2 f3 he hl ⊢
      generalize bA 5 n s1 = bb at *
      generalize bO n s1 = oo at *
      generalize cA n s1 = cc at *
      rcases hkr with ⟨k1, k2⟩ | ⟨k1, rfl⟩
      · have k3 : (i : Int) < ns.length := by omega
        have k4 : 1 ≤ ns.length - i := by omega
        simp [hta, hrem, hwm, hmod, h1, h2, h3, h4, hnext, len_lA, len_31, len_37, len_nil, hs0, undef, -evLen, -clean, k1, k2, k3, k4, f1, f2, f3, he, hl, hcb, hcc, -evConvert]
      · have k3 : ¬ (i : Int) < ns.length := by omega
        simp [hta, hrem, hwm, hmod, h1, h2, h3, h4, hnext, len_lA, len_31, len_37, len_nil, hs0, undef, -evLen, -clean, k1, k3, f1, f2, f3, he, hl, hcb, hcc, -evConvert]
    · have hs0 : stepN a k s = (if a = 255 then failN 5 s else s) := by simp [stepN, hmod]
      rw [hs0] at he hl
      by_cases h255 : a = 255
      · rw [if_pos h255] at he hl hs0
        have f1 := r_fail (K := KR) (m := 1000) (d := 8) 5 s s hs
        have f2 := w_fail (K := KR) (m := 1000) (d := 8) 5 (failN 5 s) s [] hs
        generalize failN 5 s = s1 at *
        simp only [Hh] at f1 f2 he hl ⊢
        subst h255
        rcases hkr with ⟨k1, k2⟩ | ⟨k1, rfl⟩
        · have k3 : (i : Int) < ns.length := by omega
          have k4 : 1 ≤ ns.length - i := by omega
          simp [hta, hrem, hwm, hmod, h1, h2, h3, h4, hnext, len_lA, len_31, len_37, len_nil, hs0, undef, -evLen, -clean, k1, k2, k3, k4, f1, f2, he, hl]
        · have k3 : ¬ (i : Int) < ns.length := by omega
          simp [hta, hrem, hwm, hmod, h1, h2, h3, h4, hnext, len_lA, len_31, len_37, len_nil, hs0, undef, -evLen, -clean, k1, k3, f1, f2, he, hl]
      · rw [if_neg h255] at he hl hs0
        have h255i : ¬ (a : Int) = 255 := by omega
        simp only [Hh] at he hl ⊢
        rcases hkr with ⟨k1, k2⟩ | ⟨k1, rfl⟩
        · have k3 : (i : Int) < ns.length := by omega
          have k4 : 1 ≤ ns.length - i := by omega
          simp [hta, hrem, hwm, hmod, h1, h2, h3, h4, hnext, len_lA, len_31, len_37, len_nil, hs0, undef, -evLen, -clean, k1, k2, k3, k4, h255i, he, hl]
        · have k3 : ¬ (i : Int) < ns.length := by omega
          simp [hta, hrem, hwm, hmod, h1, h2, h3, h4, hnext, len_lA, len_31, len_37, len_nil, hs0, undef, -evLen, -clean, k1, k3, h255i, he, hl]
theorem i64_wf {zs : List Int} (h : ∀ n ∈ zs, (Lit.int .i64 n).wf = true) : ∀ n ∈ zs, -9223372036854775808 ≤ n ∧ n < 9223372036854775808 := fun n hn => by
  have := h n hn
  simp [Lit.wf, IntKind.min, IntKind.max, IntKind.signed, IntKind.bits] at this
  omega
theorem vintReads_out {xs ac ns : List Int} (hx : ∀ n ∈ xs, (Lit.int .u8 n).wf = true) (ha : ∀ n ∈ ac, (Lit.int .u8 n).wf = true) (hn : ∀ n ∈ ns, (Lit.int .i64 n).wf = true) :
    evFn tt (cut [28, 29] tb) B9 KR 1000 10 9 [.lst xs.length (xs.map (intA .u8)), .lst ac.length (ac.map (intA .u8)), .lst ns.length (ns.map (intA .i64))] [] = some (.v (.bool true), []) := by
  obtain ⟨b, h1, h2, h3⟩ := bytes_nat hx
  obtain ⟨acts, h4, h5, h6⟩ := bytes_nat ha
  rw [h1, h2, h4, h5]
  exact vintReads_run b acts ns h3 h6 (i64_wf hn)
end Go.Flat
