/-
  The law VintBytes over the plain view of memory: it answers true. No condition.
-/
import Derived.Test.YtkepkcddlphojaaWideEnc
import Derived.Test.YtkepkcddlphojaaFlatR
namespace Go.Flat
open Go.Proofs
set_option linter.unusedSimpArgs false
set_option linter.unusedVariables false
set_option maxRecDepth 100000
set_option maxHeartbeats 4000000

def KV : FuncId → Nat → List Nat
  | 4, 12 => [0, 2, 3, 76, 77, 78]
  | _, _ => []
theorem KV4 : KV 4 12 = [0, 2, 3, 76, 77, 78] := rfl
theorem vint_awake2 : evFn tt (cut [26, 27, 28] tb) B1 KV 1000 9 21 [] [] = some (.v (.bool true), []) := by kernel_rfl

theorem ids_lst (xs : List Nat) (n k : Int) : idsL [.lst xs.length (xs.map a8), .v (.int .u64 n), .v (.int .i64 k)] = [] := by simp [idsL, idsA]

theorem put24_ok (xs : List Nat) (n k : Nat) (hk : okSize k) (h0 : lenZ n = k) (hm : xs.length ≤ 1000) :
    evFn tt (cut [26, 27, 28] tb) B1 KV 1000 9 24 [.lst xs.length (xs.map a8), .v (.int .u64 n)] [] = some (.tup [.sl 0 0 (xs.length + k) 1, .v (.int .i64 0)], [.row ((xs ++ bytesOf n k).map a8)]) := by
  have hz : lenZ n ≠ 0 := by rcases hk with rfl | rfl | rfl | rfl <;> omega
  have hw := known26 KV 1000 7 _ _ _ (ids_lst xs n k) [] (w26 noFns 7 xs n k hk (by omega) hz hm)
  rw [← h0] at hw
  rw [put24 KV 1000 7 _ n [] _ _ _ hw]
  simp
theorem put25_ok (l : List A) (n k : Nat) (hk : okSize k) (h0 : lenZ n = k) :
    evFn tt (cut [26, 27, 28] tb) B1 KV 1000 9 25 [.v (.int .u64 n)] [.row l] = some (.sl 1 0 k 1, [.row l, .row ((bytesOf n k).map a8)]) := by
  have hz : lenZ n ≠ 0 := by rcases hk with rfl | rfl | rfl | rfl <;> omega
  have hw := known27 KV 1000 7 _ _ _ (by simp [idsL, idsA]) [.row l] (w27 noFns 7 n k hk (by omega) hz)
  rw [← h0] at hw
  rw [call_cut tb25 rfl]
  have hl := len23c [26, 27, 28] rfl B1 KV 1000 7 n [.row l]
  simp [Try.f25, hl, hw]
theorem put24_no (xs : List Nat) (n : Nat) (h0 : lenZ n = 0) :
    evFn tt (cut [26, 27, 28] tb) B1 KV 1000 9 24 [.lst xs.length (xs.map a8), .v (.int .u64 n)] [] = some (.tup [.v (.slice none 0 0), .v (.int .i64 2)], []) := by
  have hw := known26 KV 1000 7 _ _ _ (ids_lst xs n 0) [] (wide26_other noFns 7 _ n 0 (by decide) (by decide) (by decide) (by decide) [])
  have hw2 := hw
  rw [← h0] at hw2
  rw [put24 KV 1000 7 _ n [] _ _ _ hw2]
  simp
theorem put25_no (n : Nat) (h0 : lenZ n = 0) :
    evFn tt (cut [26, 27, 28] tb) B1 KV 1000 9 25 [.v (.int .u64 n)] [] = some (.v (.slice none 0 0), []) := by
  have hw := known27 KV 1000 7 _ _ _ (by simp [idsL, idsA]) [] (wide27_small noFns 7 n 0 (Or.inl h0) [])
  rw [call_cut tb25 rfl]
  have hl := len23c [26, 27, 28] rfl B1 KV 1000 7 n []
  rw [h0] at hl
  simp [Try.f25, hl, hw]

/-- The sizes that are gone through. -/
def szs (s : Int) : List A := [.v (.int .i64 s), .v (.int .i64 1), .v (.int .i64 2), .v (.int .i64 4), .v (.int .i64 8)]
def szAt (s : Int) (i : Nat) : Int := if i = 0 then s else if i = 1 then 1 else if i = 2 then 2 else if i = 3 then 4 else 8
theorem szs_at (s : Int) : ∀ i, i < 5 → List.take 1 (List.drop i (szs s)) = [.v (.int .i64 (szAt s i))]
  | 0, _ => rfl
  | 1, _ => rfl
  | 2, _ => rfl
  | 3, _ => rfl
  | 4, _ => rfl
theorem len_cases (n : Int) : lenZ n = 0 ∨ ∃ k : Nat, okSize k ∧ lenZ n = k := by
  unfold lenZ
  split
  · exact Or.inr ⟨1, Or.inl rfl, rfl⟩
  split
  · exact Or.inr ⟨2, Or.inr (Or.inl rfl), rfl⟩
  split
  · exact Or.inr ⟨4, Or.inr (Or.inr (Or.inl rfl)), rfl⟩
  split
  · exact Or.inr ⟨8, Or.inr (Or.inr (Or.inr rfl)), rfl⟩
  · exact Or.inl rfl

theorem wide_no (n : Nat) (xs : List Nat) (k : Int) (hk : ¬ ((∃ j : Nat, okSize j ∧ (j : Int) = k ∧ lenZ n ≤ j) ∧ lenZ n ≠ 0)) (h : List Ob) :
    evFn tt (cut [26, 27, 28] tb) B1 KV 1000 9 26 [.lst xs.length (xs.map a8), .v (.int .u64 n), .v (.int .i64 k)] h = some (.tup [.v (.slice none 0 0), .v (.int .i64 2)], h) ∧
    evFn tt (cut [26, 27, 28] tb) B1 KV 1000 9 27 [.v (.int .u64 n), .v (.int .i64 k)] h = some (.v (.slice none 0 0), h) := by
  have a26 : evFn tt tb noFns KT 1000 9 26 [.lst xs.length (xs.map a8), .v (.int .u64 n), .v (.int .i64 k)] [] = some (.tup [.v (.slice none 0 0), .v (.int .i64 2)], []) := by
    by_cases hs : k = 1 ∨ k = 2 ∨ k = 4 ∨ k = 8
    · refine wide26_small noFns 7 _ n k hs ?_ []
      by_cases h0 : lenZ n = 0
      · exact Or.inl h0
      · refine Or.inr (Int.not_le.1 fun hle => hk ⟨⟨k.toNat, ?_, ?_, ?_⟩, h0⟩)
        · unfold okSize; omega
        · omega
        · omega
    · exact wide26_other noFns 7 _ n k (fun e => hs (by simp [e])) (fun e => hs (by simp [e])) (fun e => hs (by simp [e])) (fun e => hs (by simp [e])) []
  have a27 : evFn tt tb noFns KT 1000 9 27 [.v (.int .u64 n), .v (.int .i64 k)] [] = some (.v (.slice none 0 0), []) := by
    by_cases hs : lenZ n = 0 ∨ k < lenZ n
    · exact wide27_small noFns 7 n k hs []
    · have h0 : lenZ n ≠ 0 := fun e => hs (Or.inl e)
      have h1 : ¬ k < lenZ n := fun e => hs (Or.inr e)
      have ho : ¬ (k = 1 ∨ k = 2 ∨ k = 4 ∨ k = 8) := fun e => hk ⟨⟨k.toNat, by unfold okSize; omega, by omega, by omega⟩, h0⟩
      exact wide27_other noFns 7 n k h0 h1 (fun e => ho (by simp [e])) (fun e => ho (by simp [e])) (fun e => ho (by simp [e])) (fun e => ho (by simp [e])) []
  have r1 := known26 KV 1000 8 _ _ _ (ids_lst xs n k) h a26
  have r2 := known27 KV 1000 8 _ _ _ (by simp [idsL, idsA]) h a27
  simp at r1 r2
  exact ⟨r1, r2⟩

theorem str_size (xs : List Nat) : (strOf xs).size = xs.length := by simp [strOf, ByteArray.size]

theorem vintBytes_run (n : Nat) (s : Int) (xs ys : List Nat) (hn : n < 18446744073709551616) (hx : ∀ b ∈ xs, b < 256) (hy : ∀ b ∈ ys, b < 256) :
    evFn tt (cut [26, 27, 28] tb) B1 KV 1000 10 4 [.v (.int .u64 n), .v (.int .i64 s), .lst xs.length (xs.map a8), .lst ys.length (ys.map a8)] [] = some (.v (.bool true), []) := by
  rw [call_cut tb4 rfl]
  by_cases g1 : (100 : Int) < xs.length
  · simp [Try.f4, vint_awake2, g1]
  by_cases g2 : (100 : Int) < ys.length
  · simp [Try.f4, vint_awake2, g1, g2]
  have hl1 : evFn tt (cut [26, 27, 28] tb) B1 KV 1000 9 22 _ _ = _ := len22c [26, 27, 28] rfl B1 KV 1000 8 n []
  have hl2 : evFn tt (cut [26, 27, 28] tb) B1 KV 1000 9 23 _ _ = _ := len23c [26, 27, 28] rfl B1 KV 1000 8 n []
  rcases len_cases n with h0 | ⟨k, hk, h0⟩
  case' inl =>
    have hp1 := put24_no xs n h0
    have hp2 := put25_no n h0
    simp [Try.f4, vint_awake2, g1, g2, hl1, hl2, hp1, hp2, KV4]
  case' inr =>
    have hp1 := put24_ok xs n k hk h0 (by omega)
    have hp2 := put25_ok ((xs ++ bytesOf n k).map a8) n k hk h0
    have hbl := bytes_lt (n := n) hk (by omega) (by rcases hk with rfl | rfl | rfl | rfl <;> omega)
    have hcl := bytes_len n hk
    have hc1 := conv_row (xs ++ bytesOf n k) (fun b h => by rcases List.mem_append.1 h with h | h; exact hx b h; exact hbl b h) 0 [.row ((xs ++ bytesOf n k).map a8), .row ((bytesOf n k).map a8)] rfl
    have hc2 := conv_lst xs hx [.row ((xs ++ bytesOf n k).map a8), .row ((bytesOf n k).map a8)]
    have hc3 := conv_row (bytesOf n k) hbl 1 [.row ((xs ++ bytesOf n k).map a8), .row ((bytesOf n k).map a8)] rfl
    rw [List.length_append, hcl] at hc1
    rw [hcl] at hc3
    generalize List.map a8 (xs ++ bytesOf n k) = L1 at *
    generalize List.map a8 (bytesOf n k) = L2 at *
    have hsa := str_app xs (bytesOf n k)
    have hsz : (strOf xs).size + (strOf (bytesOf n k)).size ≤ 9223372036854775807 := by rw [str_size, str_size, hcl]; rcases hk with rfl | rfl | rfl | rfl <;> omega
    simp [Try.f4, undef, vint_awake2, g1, g2, hl1, hl2, hp1, hp2, hc1, hc2, hc3, hsa, hsz, KV4, -evConvert]
  all_goals
    rw [evLoop_for (fun i => ⟨slots 149 [(0, .v (.int .u64 n)), (2, .lst xs.length (xs.map a8)), (3, .lst ys.length (ys.map a8)), (76, .sl 0 0 5 1), (77, .v (.int .i64 5)), (78, .v (.int .i64 i))], [.row (szs s)]⟩) 5
      (.exit 0 ⟨slots 149 [(0, .v (.int .u64 n)), (2, .lst xs.length (xs.map a8)), (3, .lst ys.length (ys.map a8)), (76, .sl 0 0 5 1), (77, .v (.int .i64 5)), (78, .v (.int .i64 5)), (79, .v (.bool false))], [.row (szs s)]⟩) 1000 ?_ ?_ ?_ rfl (by omega)]
    · simp
    · simp [szs]
    · intro i hi
      have hcell := szs_at s i hi
      have hlen : (szs s).length = 5 := rfl
      have hi2 : (i : Int) < 5 := by omega
      have hi3 : 1 ≤ 5 - i := by omega
      have hi4 : i ≤ 4 := by omega
      have hnext : IntKind.i64.wrap ((i : Int) + 1) = i + 1 := wrapi64 (by omega) (by omega)
      generalize szAt s i = k' at *
      generalize szs s = SZ at *
      by_cases hgood : (∃ j : Nat, okSize j ∧ (j : Int) = k' ∧ lenZ n ≤ j) ∧ lenZ n ≠ 0
      · obtain ⟨⟨j, hj, rfl, hle⟩, hz⟩ := hgood
        have a1 := known26 KV 1000 8 _ _ _ (ids_lst xs n j) [.row SZ] (w26 noFns 7 xs n j hj hle hz (by omega))
        have a2 := known27 KV 1000 8 _ _ _ (by simp [idsL, idsA]) [.row SZ, .row ((xs ++ bytesOf n j).map a8)] (w27 noFns 7 n j hj hle hz)
        have hbl := bytes_lt hj hle hz
        have hcl := bytes_len n hj
        have hc1 := conv_row (xs ++ bytesOf n j) (fun b h => by rcases List.mem_append.1 h with h | h; exact hx b h; exact hbl b h) 1 [.row SZ, .row ((xs ++ bytesOf n j).map a8), .row ((bytesOf n j).map a8)] rfl
        have hc2 := conv_lst xs hx [.row SZ, .row ((xs ++ bytesOf n j).map a8), .row ((bytesOf n j).map a8)]
        have hc3 := conv_row (bytesOf n j) hbl 2 [.row SZ, .row ((xs ++ bytesOf n j).map a8), .row ((bytesOf n j).map a8)] rfl
        have hsz : (strOf xs).size + (strOf (bytesOf n j)).size ≤ 9223372036854775807 := by rw [str_size, str_size, hcl]; rcases hj with rfl | rfl | rfl | rfl <;> omega
        have hT := known28 KV 1000 8 (bytesOf n j ++ ys) _ [.row SZ, .row ((xs ++ bytesOf n j).map a8), .row ((bytesOf n j).map a8), .dead, .dead, .row ((bytesOf n j ++ ys).map a8)] 5 rfl (take_bytes noFns 8 hj hle hz ys hy)
        have hsa := str_app xs (bytesOf n j)
        rw [List.length_append, hcl] at hc1
        rw [hcl] at hc3
        rw [List.length_append, hcl, List.map_append (l₁ := bytesOf n j) (l₂ := ys)] at hT
        have hm1 : ((bytesOf n j).map a8).length = j := by rw [List.length_map, hcl]
        have hf2 : ∀ h, freezeAll h ((bytesOf n j).map a8) = some ((bytesOf n j).map a8, h) := fun h => freeze_a8 h _
        have hmx : j + ys.length ≤ 140737488355328 := by rcases hj with rfl | rfl | rfl | rfl <;> omega
        have hmy : j ≤ 140737488355328 := by omega
        generalize List.map a8 (xs ++ bytesOf n j) = L1 at *
        generalize List.map a8 (bytesOf n j) = L2 at *
        have htk : List.take j L2 = L2 := List.take_of_length_le (by omega)
        simp [mapA, mapOb] at a1 a2 hT
        simp [undef, hi2, hi3, hi4, hi, hcell, hlen, a1, a2, hc1, hc2, hc3, hsz, hsa, hT, hf2, freeze_a8, hm1, hmx, hmy, htk, tk_all, hnext, -evConvert]
      · obtain ⟨r1, r2⟩ := wide_no n xs k' hgood [.row SZ]
        simp [undef, hi2, hi3, hi4, hi, hcell, hlen, r1, r2, hnext]
    · simp
theorem u64_nat {z : Int} (h : (Lit.int .u64 z).wf = true) : ∃ n : Nat, z = n ∧ n < 18446744073709551616 := by
  simp [Lit.wf, IntKind.min, IntKind.max, IntKind.signed, IntKind.bits] at h
  exact ⟨z.toNat, by omega, by omega⟩
theorem bytes_nat {zs : List Int} (h : ∀ n ∈ zs, (Lit.int .u8 n).wf = true) : ∃ xs : List Nat, zs.length = xs.length ∧ zs.map (intA .u8) = xs.map a8 ∧ ∀ n ∈ xs, n < 256 := by
  have hb : ∀ n ∈ zs, 0 ≤ n ∧ n < 256 := fun n hn => by
    have := h n hn
    simp [Lit.wf, IntKind.min, IntKind.max, IntKind.signed, IntKind.bits] at this
    omega
  refine ⟨zs.map Int.toNat, by simp, ?_, fun n hn => ?_⟩
  · rw [List.map_map]
    refine List.map_congr_left fun n hn => ?_
    have := hb n hn
    simp only [a8, intA, Function.comp]
    congr 2
    omega
  · obtain ⟨z, hz, rfl⟩ := List.mem_map.1 hn
    have := hb z hz
    omega
theorem vintBytes_out {n s : Int} {xs ys : List Int} (hn : (Lit.int .u64 n).wf = true) (hx : ∀ n ∈ xs, (Lit.int .u8 n).wf = true) (hy : ∀ n ∈ ys, (Lit.int .u8 n).wf = true) :
    evFn tt (cut [26, 27, 28] tb) B1 KV 1000 10 4 [intA .u64 n, intA .i64 s, .lst xs.length (xs.map (intA .u8)), .lst ys.length (ys.map (intA .u8))] [] = some (.v (.bool true), []) := by
  obtain ⟨n, rfl, hn2⟩ := u64_nat hn
  obtain ⟨xs', h1, h2, h3⟩ := bytes_nat hx
  obtain ⟨ys', h4, h5, h6⟩ := bytes_nat hy
  rw [h1, h2, h4, h5]
  exact vintBytes_run n s xs' ys' hn2 h3 h6
end Go.Flat
