/-
  Writer.Int over the plain view of memory. No condition but that sizes are small.
-/
import Derived.Test.YtkepkcddlphojaaWritesA
namespace Go.Flat
open Go.Proofs
set_option linter.unusedSimpArgs false
set_option maxRecDepth 100000
set_option maxHeartbeats 4000000

theorem put24_nil (d : Nat) (n : Nat) (h0 : lenZ n ≠ 0) (e : A) (he : idsA e = []) (hr : ∀ sel, renA sel e = some e) (Rw Rp : List A) :
    evFn tt (cut [26, 27] tb) B6 KW 1000 (d + 2) 24 [.v (.slice none 0 0), .v (.int .u64 n)] [.cells [.v (.slice none 0 0), e], .row Rw, .row Rp] =
      some (.tup [.sl 3 0 (szOf n) 1, .v (.int .i64 0)], [.cells [.v (.slice none 0 0), e], .row Rw, .row Rp, .row ((enc n).map a8)]) := by
  have hl := len22c [26, 27] rfl B6 KW 1000 d n [.cells [.v (.slice none 0 0), e], .row Rw, .row Rp]
  have hk := k26_nil d n h0 [.cells [.v (.slice none 0 0), e], .row Rw, .row Rp]
  rw [call_cut tb24 rfl]
  simp [Try.f24, hl, hk, he, hr]
theorem put24_err (d : Nat) (n : Nat) (h0 : lenZ n = 0) (x : A) (H : List Ob) :
    evFn tt (cut [26, 27] tb) B6 KW 1000 (d + 2) 24 [x, .v (.int .u64 n)] H = some (.tup [.v (.slice none 0 0), .v (.int .i64 2)], H) := by
  have hl := len22c [26, 27] rfl B6 KW 1000 d n H
  have hk := k26_no d x n h0 H
  rw [call_cut tb24 rfl]
  simp [Try.f24, hl, hk]
theorem put24_row1 (d : Nat) (n : Nat) (h0 : lenZ n ≠ 0) (L L' : List Nat) (hL' : L' = L ++ enc n) (hL : L.length ≤ 1000) (e : Int) (Rw Rp : List A) :
    evFn tt (cut [26, 27] tb) B6 KW 1000 (d + 2) 24 [.sl 1 0 L.length 1, .v (.int .u64 n)] [.cells [.sl 1 0 L.length 1, .v (.int .i64 e)], .row (L.map a8), .row Rw, .row Rp] =
      some (.tup [.sl 4 0 L'.length 1, .v (.int .i64 0)], [.cells [.sl 1 0 L.length 1, .v (.int .i64 e)], .ro (L.map a8), .row Rw, .row Rp, .row (L'.map a8)]) := by
  have hl := len22c [26, 27] rfl B6 KW 1000 d n [.cells [.sl 1 0 L.length 1, .v (.int .i64 e)], .row (L.map a8), .row Rw, .row Rp]
  have hk := k26_row d L n 1 h0 [.cells [.sl 1 0 L.length 1, .v (.int .i64 e)], .row (L.map a8), .row Rw, .row Rp] rfl hL
  have hlen : L.length + szOf n = L'.length := by rw [hL', List.length_append, enc_len h0]
  rw [← hL', hlen] at hk
  rw [call_cut tb24 rfl]
  simp [Try.f24, hl, hk]
theorem put24_row3 (d : Nat) (n : Nat) (h0 : lenZ n ≠ 0) (L L' : List Nat) (hL' : L' = L ++ enc n) (hL : L.length ≤ 1000) (e : Int) (Rw Rp : List A) :
    evFn tt (cut [26, 27] tb) B6 KW 1000 (d + 2) 24 [.sl 3 0 L.length 1, .v (.int .u64 n)] [.cells [.sl 3 0 L.length 1, .v (.int .i64 e)], .row Rw, .row Rp, .row (L.map a8)] =
      some (.tup [.sl 4 0 L'.length 1, .v (.int .i64 0)], [.cells [.sl 3 0 L.length 1, .v (.int .i64 e)], .row Rw, .row Rp, .ro (L.map a8), .row (L'.map a8)]) := by
  have hl := len22c [26, 27] rfl B6 KW 1000 d n [.cells [.sl 3 0 L.length 1, .v (.int .i64 e)], .row Rw, .row Rp, .row (L.map a8)]
  have hk := k26_row d L n 3 h0 [.cells [.sl 3 0 L.length 1, .v (.int .i64 e)], .row Rw, .row Rp, .row (L.map a8)] rfl hL
  have hlen : L.length + szOf n = L'.length := by rw [hL', List.length_append, enc_len h0]
  rw [← hL', hlen] at hk
  rw [call_cut tb24 rfl]
  simp [Try.f24, hl, hk]
theorem put24_row4 (d : Nat) (n : Nat) (h0 : lenZ n ≠ 0) (L L' : List Nat) (hL' : L' = L ++ enc n) (hL : L.length ≤ 1000) (e : Int) (R0 Rw Rp : List A) :
    evFn tt (cut [26, 27] tb) B6 KW 1000 (d + 2) 24 [.sl 4 0 L.length 1, .v (.int .u64 n)] [.cells [.sl 4 0 L.length 1, .v (.int .i64 e)], .ro R0, .row Rw, .row Rp, .row (L.map a8)] =
      some (.tup [.sl 5 0 L'.length 1, .v (.int .i64 0)], [.cells [.sl 4 0 L.length 1, .v (.int .i64 e)], .ro R0, .row Rw, .row Rp, .ro (L.map a8), .row (L'.map a8)]) := by
  have hl := len22c [26, 27] rfl B6 KW 1000 d n [.cells [.sl 4 0 L.length 1, .v (.int .i64 e)], .ro R0, .row Rw, .row Rp, .row (L.map a8)]
  have hk := k26_row d L n 4 h0 [.cells [.sl 4 0 L.length 1, .v (.int .i64 e)], .ro R0, .row Rw, .row Rp, .row (L.map a8)] rfl hL
  have hlen : L.length + szOf n = L'.length := by rw [hL', List.length_append, enc_len h0]
  rw [← hL', hlen] at hk
  rw [call_cut tb24 rfl]
  simp [Try.f24, hl, hk]

theorem take_u64 {xs : List Nat} {i : Nat} (hi : i < xs.length) : List.take 1 (List.drop i (List.map u64A xs)) = [u64A (xs.getD i 0)] := by
  rw [List.drop_eq_getElem_cons (by simpa using hi)]
  simp [List.getD_eq_getElem?_getD, hi]

/-- What is there behind Int, for a writer that has a row. -/
def after1 (g : Nat) (P : Nat → List Nat) (e : Int) (Rw Rp : List A) : List Ob :=
  if g = 0 then [.cells [.sl 1 0 (P 0).length 1, .v (.int .i64 e)], .row ((P 0).map a8), .row Rw, .row Rp]
  else [.cells [.sl 4 0 (P g).length 1, .v (.int .i64 e)], .ro ((P 0).map a8), .row Rw, .row Rp, .row ((P g).map a8)]

theorem int30_row (d : Nat) (l : List Nat) (g : Nat) (hg : g ≤ l.length) (hl : l.length ≤ 40) (hgood : ∀ i, i < g → lenZ (l.getD i 0 : Nat) ≠ 0)
    (P : Nat → List Nat) (hP : ∀ i, i < g → P (i + 1) = P i ++ enc (l.getD i 0)) (hPl : ∀ i, i ≤ g → (P i).length ≤ 900) (e : Int) (Rw Rp : List A)
    (hend : g = l.length ∨ (g < l.length ∧ lenZ (l.getD g 0 : Nat) = 0)) :
    evFn tt (cut [26, 27] tb) B6 KW 1000 (d + 3) 30 [.ptr 0 0, .lst l.length (l.map u64A)] [.cells [.sl 1 0 (P 0).length 1, .v (.int .i64 e)], .row ((P 0).map a8), .row Rw, .row Rp] =
      some (.tup [], after1 g P (if g = l.length then e else 2) Rw Rp) := by
  rw [call_cut tb30 rfl]
  simp [Try.f30, KW30]
  rw [evLoop_upto (fun i => if i = 0 then ⟨slots 36 [(0, .ptr 0 0), (10, .lst l.length (l.map u64A)), (11, .v (.int .i64 l.length)), (12, .v (.int .i64 0))], [.cells [.sl 1 0 (P 0).length 1, .v (.int .i64 e)], .row ((P 0).map a8), .row Rw, .row Rp]⟩
    else ⟨slots 36 [(0, .ptr 0 0), (10, .lst l.length (l.map u64A)), (11, .v (.int .i64 l.length)), (12, .v (.int .i64 i))], [.cells [.sl 4 0 (P i).length 1, .v (.int .i64 e)], .ro ((P 0).map a8), .row Rw, .row Rp, .row ((P i).map a8)]⟩) g 1000 ?_ ?_ (by omega)]
  · rcases hend with rfl | ⟨h1, h2⟩
    · by_cases hz : l.length = 0
      · simp [after1, hz]
      · simp [after1, hz]
    · have htk := take_u64 h1
      have hne : ¬ g = l.length := by omega
      have h1' : (g : Int) < l.length := by omega
      have h1'' : 1 ≤ l.length - g := by omega
      generalize l.getD g 0 = n at *
      have hp := put24_err d n h2
      by_cases hz : g = 0
      · subst hz
        simp at htk h1' h1''
        simp [after1, hne, h1, h1', h1'', htk, u64A, hp]
      · simp [after1, hz, hne, h1, h1', h1'', htk, u64A, hp]
  · simp
  · intro i hi
    have h1 : i < l.length := by omega
    have htk := take_u64 h1
    have h1' : (i : Int) < l.length := by omega
    have h1'' : 1 ≤ l.length - i := by omega
    have hPi := hP i hi
    have hg0 := hgood i hi
    have hle := hPl i (by omega)
    have hnext : IntKind.i64.wrap ((i : Int) + 1) = i + 1 := wrapi64 (by omega) (by omega)
    generalize l.getD i 0 = n at *
    by_cases hz : i = 0
    · subst hz
      have hp := put24_row1 d n hg0 (P 0) (P 1) hPi (by omega) e Rw Rp
      have w1 : IntKind.i64.wrap 1 = 1 := by decide
      simp at htk h1' h1''
      simp [h1', h1'', htk, u64A, hp, w1]
    · have hp := put24_row4 d n hg0 (P i) (P (i + 1)) hPi (by omega) e ((P 0).map a8) Rw Rp
      simp [hz, h1', h1'', htk, u64A, hp, hnext]
/-- What is there behind Int, for a writer that has none. -/
def after0 (g : Nat) (P : Nat → List Nat) (e : Int) (Rw Rp : List A) : List Ob :=
  if g = 0 then [.cells [.v (.slice none 0 0), .v (.int .i64 e)], .row Rw, .row Rp]
  else [.cells [.sl 3 0 (P g).length 1, .v (.int .i64 e)], .row Rw, .row Rp, .row ((P g).map a8)]

theorem int30_nil (d : Nat) (l : List Nat) (g : Nat) (hg : g ≤ l.length) (hl : l.length ≤ 40) (hgood : ∀ i, i < g → lenZ (l.getD i 0 : Nat) ≠ 0)
    (P : Nat → List Nat) (hP0 : P 0 = []) (hP : ∀ i, i < g → P (i + 1) = P i ++ enc (l.getD i 0)) (hPl : ∀ i, i ≤ g → (P i).length ≤ 900) (e : Int) (Rw Rp : List A)
    (hend : g = l.length ∨ (g < l.length ∧ lenZ (l.getD g 0 : Nat) = 0)) :
    evFn tt (cut [26, 27] tb) B6 KW 1000 (d + 3) 30 [.ptr 0 0, .lst l.length (l.map u64A)] [.cells [.v (.slice none 0 0), .v (.int .i64 e)], .row Rw, .row Rp] =
      some (.tup [], after0 g P (if g = l.length then e else 2) Rw Rp) := by
  rw [call_cut tb30 rfl]
  simp [Try.f30, KW30]
  rw [evLoop_upto (fun i => if i = 0 then ⟨slots 36 [(0, .ptr 0 0), (10, .lst l.length (l.map u64A)), (11, .v (.int .i64 l.length)), (12, .v (.int .i64 0))], [.cells [.v (.slice none 0 0), .v (.int .i64 e)], .row Rw, .row Rp]⟩
    else ⟨slots 36 [(0, .ptr 0 0), (10, .lst l.length (l.map u64A)), (11, .v (.int .i64 l.length)), (12, .v (.int .i64 i))], [.cells [.sl 3 0 (P i).length 1, .v (.int .i64 e)], .row Rw, .row Rp, .row ((P i).map a8)]⟩) g 1000 ?_ ?_ (by omega)]
  · rcases hend with rfl | ⟨h1, h2⟩
    · by_cases hz : l.length = 0
      · simp [after0, hz]
      · simp [after0, hz]
    · have htk := take_u64 h1
      have hne : ¬ g = l.length := by omega
      have h1' : (g : Int) < l.length := by omega
      have h1'' : 1 ≤ l.length - g := by omega
      generalize l.getD g 0 = n at *
      have hp := put24_err d n h2
      by_cases hz : g = 0
      · subst hz
        simp at htk h1' h1''
        simp [after0, hne, h1, h1', h1'', htk, u64A, hp]
      · simp [after0, hz, hne, h1, h1', h1'', htk, u64A, hp]
  · simp
  · intro i hi
    have h1 : i < l.length := by omega
    have htk := take_u64 h1
    have h1' : (i : Int) < l.length := by omega
    have h1'' : 1 ≤ l.length - i := by omega
    have hPi := hP i hi
    have hg0 := hgood i hi
    have hle := hPl i (by omega)
    have hnext : IntKind.i64.wrap ((i : Int) + 1) = i + 1 := wrapi64 (by omega) (by omega)
    generalize l.getD i 0 = n at *
    by_cases hz : i = 0
    · subst hz
      have hp := put24_nil d n hg0 (.v (.int .i64 e)) rfl (fun _ => rfl) Rw Rp
      have hs1 : szOf n = (P 1).length := by rw [show P 1 = P 0 ++ enc n from hPi, hP0, List.nil_append, enc_len hg0]
      have he1 : enc n = P 1 := by rw [show P 1 = P 0 ++ enc n from hPi, hP0, List.nil_append]
      rw [hs1, he1] at hp
      have w1 : IntKind.i64.wrap 1 = 1 := by decide
      simp at htk h1' h1''
      simp [h1', h1'', htk, u64A, hp, w1]
    · have hp := put24_row3 d n hg0 (P i) (P (i + 1)) hPi (by omega) e Rw Rp
      simp [hz, h1', h1'', htk, u64A, hp, hnext]
end Go.Flat
