/-
  The run of the law PathRoom over the plain view of memory: it answers true, whatever came and whatever is wanted. No condition.
-/
import Derived.Test.YtkepkcddlphojaaFlatT
namespace Go.Flat
open Go.Proofs
set_option maxRecDepth 100000
set_option maxHeartbeats 2000000

def K1 : FuncId → Nat → List Nat
  | 3, 8 => [0, 1, 4, 5, 6, 7, 17, 18, 19]
  | _, _ => []
theorem K1at : K1 3 8 = [0, 1, 4, 5, 6, 7, 17, 18, 19] := rfl
theorem awake : evFn tt tb noFns K1 1000 2 15 [] [] = some (.v (.bool true), []) := by kernel_rfl
def cameG (g n : Int) : Int := if 0 < n then (if 1537228672809129301 < IntKind.u64.wrap (g + IntKind.u64.wrap n) then 1537228672809129301 else IntKind.u64.wrap (g + IntKind.u64.wrap n)) else g
def sentG (g n : Int) : Int := if 0 < n then (if 4611686018427387903 < IntKind.u64.wrap (g + IntKind.u64.wrap n) then 4611686018427387903 else IntKind.u64.wrap (g + IntKind.u64.wrap n)) else g
def roomG (g s : Int) : Int := IntKind.u64.wrap (IntKind.u64.wrap (3 * g) - (if IntKind.u64.wrap (3 * g) < s then IntKind.u64.wrap (3 * g) else s))
theorem came (g s m : Int) : evFn tt tb noFns K1 1000 2 17 [.ptr 0 0, .v (.int .i64 m)] [.cells [.v (.int .u64 0), .v (.int .u8 0), .v (.int .u64 g), .v (.int .u64 s), .v (.int .u8 0), .v (.int .u8 0), .v (.int .u8 0), .v (.int .u8 0), .v (.int .u8 0), .v (.int .u8 0), .v (.int .u8 0), .v (.int .u8 0), .v (.int .u64 0), .v (.bool false), .v (.slice none 0 0)]] = some (.tup [], [.cells [.v (.int .u64 0), .v (.int .u8 0), .v (.int .u64 (cameG g m)), .v (.int .u64 s), .v (.int .u8 0), .v (.int .u8 0), .v (.int .u8 0), .v (.int .u8 0), .v (.int .u8 0), .v (.int .u8 0), .v (.int .u8 0), .v (.int .u8 0), .v (.int .u64 0), .v (.bool false), .v (.slice none 0 0)]]) := by
  rw [call17]
  by_cases h : 0 < m <;> simp [Try.f17, cameG, h]
theorem sent (g s m : Int) : evFn tt tb noFns K1 1000 2 19 [.ptr 0 0, .v (.int .i64 m)] [.cells [.v (.int .u64 0), .v (.int .u8 0), .v (.int .u64 g), .v (.int .u64 s), .v (.int .u8 0), .v (.int .u8 0), .v (.int .u8 0), .v (.int .u8 0), .v (.int .u8 0), .v (.int .u8 0), .v (.int .u8 0), .v (.int .u8 0), .v (.int .u64 0), .v (.bool false), .v (.slice none 0 0)]] = some (.tup [], [.cells [.v (.int .u64 0), .v (.int .u8 0), .v (.int .u64 g), .v (.int .u64 (sentG s m)), .v (.int .u8 0), .v (.int .u8 0), .v (.int .u8 0), .v (.int .u8 0), .v (.int .u8 0), .v (.int .u8 0), .v (.int .u8 0), .v (.int .u8 0), .v (.int .u64 0), .v (.bool false), .v (.slice none 0 0)]]) := by
  rw [call19]
  by_cases h : 0 < m <;> simp [Try.f19, sentG, h]
theorem room (g s : Int) : evFn tt tb noFns K1 1000 2 18 [.ptr 0 0] [.cells [.v (.int .u64 0), .v (.int .u8 0), .v (.int .u64 g), .v (.int .u64 s), .v (.int .u8 0), .v (.int .u8 0), .v (.int .u8 0), .v (.int .u8 0), .v (.int .u8 0), .v (.int .u8 0), .v (.int .u8 0), .v (.int .u8 0), .v (.int .u64 0), .v (.bool false), .v (.slice none 0 0)]] = some (.v (.int .u64 (roomG g s)), [.cells [.v (.int .u64 0), .v (.int .u8 0), .v (.int .u64 g), .v (.int .u64 s), .v (.int .u8 0), .v (.int .u8 0), .v (.int .u8 0), .v (.int .u8 0), .v (.int .u8 0), .v (.int .u8 0), .v (.int .u8 0), .v (.int .u8 0), .v (.int .u64 0), .v (.bool false), .v (.slice none 0 0)]]) := by
  rw [call18]
  simp [Try.f18, roomG]
theorem room2 (g s : Int) : evFn tt tb noFns K1 1000 2 18 [.ptr 0 0] [.cells [.v (.int .u64 0), .v (.int .u8 2), .v (.int .u64 g), .v (.int .u64 s), .v (.int .u8 0), .v (.int .u8 0), .v (.int .u8 0), .v (.int .u8 0), .v (.int .u8 0), .v (.int .u8 0), .v (.int .u8 0), .v (.int .u8 0), .v (.int .u64 0), .v (.bool false), .v (.slice none 0 0)]] = some (.v (.int .u64 4611686018427387903), [.cells [.v (.int .u64 0), .v (.int .u8 2), .v (.int .u64 g), .v (.int .u64 s), .v (.int .u8 0), .v (.int .u8 0), .v (.int .u8 0), .v (.int .u8 0), .v (.int .u8 0), .v (.int .u8 0), .v (.int .u8 0), .v (.int .u8 0), .v (.int .u64 0), .v (.bool false), .v (.slice none 0 0)]]) := by
  rw [call18]
  simp [Try.f18]
theorem newp : evFn tt tb noFns K1 1000 2 16 [.v (.int .u64 0), .v (.bool false)] [] = some (.ptr 0 0, [.cells [.v (.int .u64 0), .v (.int .u8 0), .v (.int .u64 0), .v (.int .u64 0), .v (.int .u8 0), .v (.int .u8 0), .v (.int .u8 0), .v (.int .u8 0), .v (.int .u8 0), .v (.int .u8 0), .v (.int .u8 0), .v (.int .u8 0), .v (.int .u64 0), .v (.bool false), .v (.slice none 0 0)]]) := by
  rw [call16]
  simp [Try.f16]
theorem know (g s : Int) : evFn tt tb noFns K1 1000 2 20 [.ptr 0 0] [.cells [.v (.int .u64 0), .v (.int .u8 0), .v (.int .u64 g), .v (.int .u64 s), .v (.int .u8 0), .v (.int .u8 0), .v (.int .u8 0), .v (.int .u8 0), .v (.int .u8 0), .v (.int .u8 0), .v (.int .u8 0), .v (.int .u8 0), .v (.int .u64 0), .v (.bool false), .v (.slice none 0 0)]] = some (.tup [], [.cells [.v (.int .u64 0), .v (.int .u8 2), .v (.int .u64 g), .v (.int .u64 s), .v (.int .u8 0), .v (.int .u8 0), .v (.int .u8 0), .v (.int .u8 0), .v (.int .u8 0), .v (.int .u8 0), .v (.int .u8 0), .v (.int .u8 0), .v (.int .u64 0), .v (.bool false), .v (.slice none 0 0)]]) := by
  rw [call20]
  simp [Try.f20]
def GG (xs : List Nat) : Nat → Int
  | 0 => 0
  | i + 1 => GG xs i + (xs.getD i 0 : Nat)
def OO (xs ys : List Nat) : Nat → Int
  | 0 => 0
  | i + 1 => if i < ys.length then OO xs ys i + (if 3 * GG xs (i + 1) - OO xs ys i < (ys.getD i 0 : Nat) then 3 * GG xs (i + 1) - OO xs ys i else (ys.getD i 0 : Nat)) else OO xs ys i
def a16 (n : Nat) : A := .v (.int .u16 n)
theorem wrap64 {x : Int} (h : 0 ≤ x) (h2 : x < 18446744073709551616) : IntKind.u64.wrap x = x := by
  unfold IntKind.wrap
  simp [IntKind.signed, IntKind.bits]
  omega
theorem wrapi64 {x : Int} (h : -9223372036854775808 ≤ x) (h2 : x < 9223372036854775808) : IntKind.i64.wrap x = x := by
  unfold IntKind.wrap
  simp [IntKind.signed, IntKind.bits]
  omega
theorem getD_lt {xs : List Nat} {b : Nat} (hx : ∀ n ∈ xs, n < b) (hb : 0 < b) (i : Nat) : xs.getD i 0 < b := by
  rw [List.getD_eq_getElem?_getD]
  cases h : xs[i]? with
  | none => exact hb
  | some n => exact hx n (List.mem_of_getElem? h)
theorem path_inv (xs ys : List Nat) (hx : ∀ n ∈ xs, n < 65536) : ∀ i : Nat,
   0 ≤ GG xs i ∧ GG xs i ≤ 65536 * i ∧ 0 ≤ OO xs ys i ∧ OO xs ys i ≤ 3 * GG xs i
  | 0 => by simp [GG, OO]
  | i + 1 => by
    obtain ⟨h1, h2, h3, h4⟩ := path_inv xs ys hx i
    have := getD_lt hx (by omega) i
    have e : GG xs (i + 1) = GG xs i + (xs.getD i 0 : Nat) := rfl
    simp only [OO, e]
    generalize xs.getD i 0 = c at *
    generalize ys.getD i 0 = d at *
    refine ⟨by omega, by omega, ?_, ?_⟩
    · split
      · split <;> omega
      · omega
    · split
      · split <;> omega
      · omega
theorem take_a16 {xs : List Nat} {i : Nat} (hi : i < xs.length) : List.take 1 (List.drop i (List.map a16 xs)) = [a16 (xs.getD i 0)] := by
  rw [List.drop_eq_getElem_cons (by simpa using hi)]
  simp [List.getD_eq_getElem?_getD, hi]
theorem pathRoom_run (xs ys : List Nat) (hx : ∀ n ∈ xs, n < 65536) (hy : ∀ n ∈ ys, n < 65536) : evFn tt tb noFns K1 1000 3 3 [.lst xs.length (xs.map a16), .lst ys.length (ys.map a16)] [] = some (.v (.bool true), []) := by
  rw [call3]
  by_cases h : (100 : Int) < xs.length
  · simp [Try.f3, awake, h]
  · simp [Try.f3, awake, h, newp, K1at]
    rw [evLoop_for (fun i => ⟨slots 70 [(0, .lst xs.length (xs.map a16)), (1, .lst ys.length (ys.map a16)), (4, .v (.bool false)), (5, .ptr 0 0), (6, .v (.int .u64 (GG xs i))), (7, .v (.int .u64 (OO xs ys i))), (17, .lst xs.length (xs.map a16)), (18, .v (.int .i64 xs.length)), (19, .v (.int .i64 i))], [.cells [.v (.int .u64 0), .v (.int .u8 0), .v (.int .u64 (GG xs i)), .v (.int .u64 (OO xs ys i)), .v (.int .u8 0), .v (.int .u8 0), .v (.int .u8 0), .v (.int .u8 0), .v (.int .u8 0), .v (.int .u8 0), .v (.int .u8 0), .v (.int .u8 0), .v (.int .u64 0), .v (.bool false), .v (.slice none 0 0)]]⟩) xs.length (.exit 0 ⟨slots 70 [(0, .lst xs.length (xs.map a16)), (1, .lst ys.length (ys.map a16)), (4, .v (.bool false)), (5, .ptr 0 0), (6, .v (.int .u64 (GG xs xs.length))), (7, .v (.int .u64 (OO xs ys xs.length))), (17, .lst xs.length (xs.map a16)), (18, .v (.int .i64 xs.length)), (19, .v (.int .i64 xs.length)), (20, .v (.bool false))], [.cells [.v (.int .u64 0), .v (.int .u8 0), .v (.int .u64 (GG xs xs.length)), .v (.int .u64 (OO xs ys xs.length)), .v (.int .u8 0), .v (.int .u8 0), .v (.int .u8 0), .v (.int .u8 0), .v (.int .u8 0), .v (.int .u8 0), .v (.int .u8 0), .v (.int .u8 0), .v (.int .u64 0), .v (.bool false), .v (.slice none 0 0)]]⟩) 1000 ?_ ?_ ?_ rfl ?_]
    · simp [know, room2]
    · simp [GG, OO]
    · intro i hi
      have hn : 1 ≤ xs.length - i := by omega
      have htk := take_a16 hi
      have il : i < 101 := by omega
      obtain ⟨g1, g2, g3, g4⟩ := path_inv xs ys hx i
      obtain ⟨k1, k2, k3, k4⟩ := path_inv xs ys hx (i + 1)
      have cl := getD_lt hx (by omega) i
      have wl := getD_lt hy (by omega) i
      have ge : GG xs (i + 1) = GG xs i + (xs.getD i 0 : Nat) := rfl
      have oe : OO xs ys (i + 1) = if i < ys.length then OO xs ys i + (if 3 * GG xs (i + 1) - OO xs ys i < (ys.getD i 0 : Nat) then 3 * GG xs (i + 1) - OO xs ys i else (ys.getD i 0 : Nat)) else OO xs ys i := rfl
      generalize hcc : xs.getD i 0 = c at *
      generalize hww : ys.getD i 0 = d at *
      have hc : cameG (GG xs i) (IntKind.i64.wrap c) = GG xs (i + 1) := by
        rw [wrapi64 (by omega) (by omega)]
        unfold cameG
        rw [wrap64 (x := (c : Int)) (by omega) (by omega), wrap64 (by omega) (by omega)]
        split
        · split <;> omega
        · omega
      have hin : IntKind.u64.wrap (GG xs i + IntKind.u64.wrap c) = GG xs (i + 1) := by
        rw [wrap64 (x := (c : Int)) (by omega) (by omega), wrap64 (by omega) (by omega), ge]
      have hroom : ∀ o, 0 ≤ o → o ≤ 3 * GG xs (i + 1) → roomG (GG xs (i + 1)) o = 3 * GG xs (i + 1) - o := fun o h0 h3 => by
        unfold roomG
        rw [wrap64 (x := 3 * GG xs (i + 1)) (by omega) (by omega)]
        split
        · omega
        · rw [wrap64 (by omega) (by omega)]
      have h3w : IntKind.u64.wrap (3 * GG xs (i + 1)) = 3 * GG xs (i + 1) := wrap64 (by omega) (by omega)
      have h3l : ¬ (3 * GG xs (i + 1) < OO xs ys (i + 1)) := by omega
      have hr2 : roomG (GG xs (i + 1)) (OO xs ys (i + 1)) = 3 * GG xs (i + 1) - OO xs ys (i + 1) := hroom _ (by omega) (by omega)
      have hr3 : IntKind.u64.wrap (3 * GG xs (i + 1) - OO xs ys (i + 1)) = 3 * GG xs (i + 1) - OO xs ys (i + 1) := wrap64 (by omega) (by omega)
      have hnext : IntKind.i64.wrap (i + 1) = i + 1 := wrapi64 (by omega) (by omega)
      by_cases hb : i < ys.length
      · have htky := take_a16 hb
        rw [hww] at htky
        have hny : 1 ≤ ys.length - i := by omega
        rw [if_pos hb] at oe
        have hmin : (if roomG (GG xs (i + 1)) (OO xs ys i) < IntKind.u64.wrap d then roomG (GG xs (i + 1)) (OO xs ys i) else IntKind.u64.wrap d) = OO xs ys (i + 1) - OO xs ys i := by
          rw [hroom _ (by omega) (by omega), wrap64 (x := (d : Int)) (by omega) (by omega), oe]
          omega
        have hle : OO xs ys i ≤ OO xs ys (i + 1) := by rw [oe]; split <;> omega
        have hsent : sentG (OO xs ys i) (IntKind.i64.wrap (OO xs ys (i + 1) - OO xs ys i)) = OO xs ys (i + 1) := by
          rw [wrapi64 (by omega) (by omega)]
          unfold sentG
          rw [wrap64 (x := OO xs ys (i + 1) - OO xs ys i) (by omega) (by omega), wrap64 (by omega) (by omega)]
          split
          · split <;> omega
          · omega
        have hout : IntKind.u64.wrap (OO xs ys i + (OO xs ys (i + 1) - OO xs ys i)) = OO xs ys (i + 1) := by rw [wrap64 (by omega) (by omega)]; omega
        simp [hi, hn, htk, hb, htky, hny, hc, hin, hmin, hsent, hout, h3w, h3l, hr2, hr3, hnext, came, room, sent, a16]
      · rw [if_neg hb] at oe
        rw [oe] at h3l hr2 hr3
        simp [hi, hn, htk, hb, hc, hin, h3w, h3l, hr2, hr3, hnext, came, room, a16, oe]
    · simp
    · omega
theorem u16_nat {zs : List Int} (h : ∀ n ∈ zs, (Lit.int .u16 n).wf = true) : ∃ xs : List Nat, zs.length = xs.length ∧ (zs.map fun n => A.v (.int .u16 n)) = xs.map a16 ∧ ∀ n ∈ xs, n < 65536 := by
  have hb : ∀ n ∈ zs, 0 ≤ n ∧ n < 65536 := fun n hn => by
    have := h n hn
    simp [Lit.wf, IntKind.min, IntKind.max, IntKind.signed, IntKind.bits] at this
    omega
  refine ⟨zs.map Int.toNat, by simp, ?_, fun n hn => ?_⟩
  · rw [List.map_map]
    refine List.map_congr_left fun n hn => ?_
    have := hb n hn
    simp only [a16, Function.comp]
    congr 2
    omega
  · obtain ⟨z, hz, rfl⟩ := List.mem_map.1 hn
    have := hb z hz
    omega
theorem pathRoom_out {xs ys : List Int} (hx : ∀ n ∈ xs, (Lit.int .u16 n).wf = true) (hy : ∀ n ∈ ys, (Lit.int .u16 n).wf = true) : evFn tt tb noFns K1 1000 3 3 [.lst xs.length (xs.map fun n => A.v (.int .u16 n)), .lst ys.length (ys.map fun n => A.v (.int .u16 n))] [] = some (.v (.bool true), []) := by
  obtain ⟨x', hl, hm, hb⟩ := u16_nat hx
  obtain ⟨y', hl', hm', hb'⟩ := u16_nat hy
  rw [hl, hm, hl', hm']
  exact pathRoom_run x' y' hb hb'
end Go.Flat
