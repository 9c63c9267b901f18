/-
  The Writer's Long, Bytes, Done, and Put of the reference, in the law's memory. No condition but that sizes are small.
-/
import Derived.Test.YtkepkcddlphojaaWritesB
namespace Go.Flat
open Go.Proofs
set_option linter.unusedSimpArgs false
set_option maxRecDepth 100000
set_option maxHeartbeats 4000000

theorem put25_err (d : Nat) (n : Nat) (h0 : lenZ n = 0) (H : List Ob) : evFn tt (cut [26, 27] tb) B6 KW 1000 (d + 2) 25 [.v (.int .u64 n)] H = some (.v (.slice none 0 0), H) := by
  have hl := len23c [26, 27] rfl B6 KW 1000 d n H
  have hk := k27_no d n h0 H
  rw [call_cut tb25 rfl]
  simp [Try.f25, hl, hk]
theorem sz_len (n : Nat) (h : lenZ n ≠ 0) : szOf n = (enc n).length := (enc_len h).symm
theorem frz8 (L : List Nat) (h : List Ob) : freezeAll h (L.map a8) = some (L.map a8, h) := freeze_a8 h L
theorem done_err (d : Nat) (w : A) (e : Int) (he : e ≠ 0) (H : List Ob) : evFn tt (cut [26, 27] tb) B6 KW 1000 (d + 1) 33 [.ptr 0 0] (.cells [w, .v (.int .i64 e)] :: H) = some (.tup [.v (.slice none 0 0), .v (.int .i64 e)], .cells [w, .v (.int .i64 e)] :: H) := by
  rw [call_cut tb33 rfl]
  simp [Try.f33, he]

theorem put24L_0 (d : Nat) (n : Nat) (h0 : lenZ n ≠ 0) (L' : List Nat) (hL' : L' = [] ++ enc n) (e : Int) (Rw Rp Rl : List A) :
    evFn tt (cut [26, 27] tb) B6 KW 1000 (d + 2) 24 [.v (.slice none 0 0), .v (.int .u64 n)] [.cells [.v (.slice none 0 0), .v (.int .i64 e)], .row Rw, .row Rp, .row Rl] =
      some (.tup [.sl 4 0 L'.length 1, .v (.int .i64 0)], [.cells [.v (.slice none 0 0), .v (.int .i64 e)], .row Rw, .row Rp, .row Rl, .row (L'.map a8)]) := by
  have hl := len22c [26, 27] rfl B6 KW 1000 d n [.cells [.v (.slice none 0 0), .v (.int .i64 e)], .row Rw, .row Rp, .row Rl]
  have hk := k26_nil d n h0 [.cells [.v (.slice none 0 0), .v (.int .i64 e)], .row Rw, .row Rp, .row Rl]
  have hlen : szOf n = L'.length := by rw [hL', List.nil_append, enc_len h0]
  rw [hlen, show enc n = L' from hL'.symm] at hk
  rw [call_cut tb24 rfl]
  simp [Try.f24, hl, hk]
theorem int30L_0 (d : Nat) (n : Nat) (h0 : lenZ n ≠ 0) (L' : List Nat) (hL' : L' = [] ++ enc n) (e : Int) (Rw Rp : List A) :
    evFn tt (cut [26, 27] tb) B6 KW 1000 (d + 3) 30 [.ptr 0 0, .sl 3 0 1 1] [.cells [.v (.slice none 0 0), .v (.int .i64 e)], .row Rw, .row Rp, .row [u64A n]] = some (.tup [], [.cells [.sl 4 0 L'.length 1, .v (.int .i64 e)], .row Rw, .row Rp, .row [u64A n], .row (L'.map a8)]) := by
  have hp := put24L_0 d n h0 L' hL' e Rw Rp [u64A n]
  have w1 : IntKind.i64.wrap 1 = 1 := by decide
  have hu : u64A n = .v (.int .u64 n) := rfl
  rw [hu] at hp ⊢
  rw [call_cut tb30 rfl]
  simp [Try.f30, KW30, evLoop_step, hp, w1]
theorem bytes32A_0 (d : Nat) (L' ys : List Nat) (hb : L'.length + ys.length ≤ 2000) (e : Int) (Rw Rp Rl : List A) :
    evFn tt (cut [26, 27] tb) B6 KW 1000 (d + 1) 32 [.ptr 0 0, .lst ys.length (ys.map a8)] [.cells [.sl 4 0 L'.length 1, .v (.int .i64 e)], .row Rw, .row Rp, .row Rl, .row (L'.map a8)] = some (.tup [], [.cells [.sl 5 0 (L' ++ ys).length 1, .v (.int .i64 e)], .row Rw, .row Rp, .row Rl, .dead, .row ((L' ++ ys).map a8)]) := by
  have hm : L'.length + ys.length ≤ 140737488355328 := by omega
  rw [call_cut tb32 rfl]
  simp [Try.f32, frz8, hm, tk_all]
theorem long31_0 (d : Nat) (ys M : List Nat) (hy : ys.length ≤ 300) (hM : M = [] ++ enc ys.length ++ ys) (e : Int) (Rw Rp : List A) :
    evFn tt (cut [26, 27] tb) B6 KW 1000 (d + 4) 31 [.ptr 0 0, .lst ys.length (ys.map a8)] [.cells [.v (.slice none 0 0), .v (.int .i64 e)], .row Rw, .row Rp] = some (.tup [], [.cells [.sl 3 0 M.length 1, .v (.int .i64 e)], .row Rw, .row Rp, .row (M.map a8)]) := by
  have h0 : lenZ (ys.length : Nat) ≠ 0 := by unfold lenZ; split <;> (try split) <;> omega
  have hs := sz_le h0
  have hi := int30L_0 d ys.length h0 ([] ++ enc ys.length) rfl e Rw Rp
  have hb := bytes32A_0 (d + 2) ([] ++ enc ys.length) ys (by simp [enc_len h0]; omega) e Rw Rp [u64A ys.length]
  rw [← hM] at hb
  have hw : IntKind.u64.wrap (ys.length : Int) = ys.length := wrapu64 (by omega) (by omega)
  generalize [] ++ enc ys.length = L' at *
  have hu : u64A ys.length = .v (.int .u64 ys.length) := rfl
  rw [hu] at hi hb
  rw [call_cut tb31 rfl]
  simp [Try.f31, hw, hi, hb]
theorem bytes32B_0 (d : Nat) (M M' ys : List Nat) (hb : M.length + ys.length ≤ 2000) (hM : M' = M ++ ys) (e : Int) (Rw Rp : List A) :
    evFn tt (cut [26, 27] tb) B6 KW 1000 (d + 1) 32 [.ptr 0 0, .lst ys.length (ys.map a8)] [.cells [.sl 3 0 M.length 1, .v (.int .i64 e)], .row Rw, .row Rp, .row (M.map a8)] = some (.tup [], [.cells [.sl 4 0 M'.length 1, .v (.int .i64 e)], .row Rw, .row Rp, .dead, .row (M'.map a8)]) := by
  have hm : M.length + ys.length ≤ 140737488355328 := by omega
  subst hM
  rw [call_cut tb32 rfl]
  simp [Try.f32, frz8, hm, tk_all]
theorem put25E_0 (d : Nat) (M' : List Nat) (n : Nat) (h0 : lenZ n ≠ 0) (e : Int) (Rw Rp : List A) :
    evFn tt (cut [26, 27] tb) B6 KW 1000 (d + 2) 25 [.v (.int .u64 n)] [.cells [.sl 4 0 M'.length 1, .v (.int .i64 e)], .row Rw, .row Rp, .dead, .row (M'.map a8)] = some (.sl 5 0 (enc n).length 1, [.cells [.sl 4 0 M'.length 1, .v (.int .i64 e)], .row Rw, .row Rp, .dead, .row (M'.map a8), .row ((enc n).map a8)]) := by
  have hl := len23c [26, 27] rfl B6 KW 1000 d n [.cells [.sl 4 0 M'.length 1, .v (.int .i64 e)], .row Rw, .row Rp, .dead, .row (M'.map a8)]
  have hk := k27 d n h0 [.cells [.sl 4 0 M'.length 1, .v (.int .i64 e)], .row Rw, .row Rp, .dead, .row (M'.map a8)]
  rw [sz_len n h0] at hk
  rw [call_cut tb25 rfl]
  simp [Try.f25, hl, hk]
theorem put25I_0 (d : Nat) (n : Nat) (h0 : lenZ n ≠ 0) (e : Int) (Rw Rp : List A) :
    evFn tt (cut [26, 27] tb) B6 KW 1000 (d + 2) 25 [.v (.int .u64 n)] [.cells [.v (.slice none 0 0), .v (.int .i64 e)], .row Rw, .row Rp] = some (.sl 3 0 (enc n).length 1, [.cells [.v (.slice none 0 0), .v (.int .i64 e)], .row Rw, .row Rp, .row ((enc n).map a8)]) := by
  have hl := len23c [26, 27] rfl B6 KW 1000 d n [.cells [.v (.slice none 0 0), .v (.int .i64 e)], .row Rw, .row Rp]
  have hk := k27 d n h0 [.cells [.v (.slice none 0 0), .v (.int .i64 e)], .row Rw, .row Rp]
  rw [sz_len n h0] at hk
  rw [call_cut tb25 rfl]
  simp [Try.f25, hl, hk]
theorem done33_0 (d : Nat) (M : List Nat) (hM : M.length ≤ 2000) (Rw Rp Re : List A) :
    evFn tt (cut [26, 27] tb) B6 KW 1000 (d + 1) 33 [.ptr 0 0] [.cells [.sl 4 0 M.length 1, .v (.int .i64 0)], .dead, .row Rp, .dead, .row (M.map a8), .row Re, .dead, .dead, .row Rw] = some (.tup [.sl 9 0 M.length 1, .v (.int .i64 0)], [.cells [.sl 4 0 M.length 1, .v (.int .i64 0)], .dead, .row Rp, .dead, .row (M.map a8), .row Re, .dead, .dead, .row Rw, .row (M.map a8)]) := by
  have hm : M.length ≤ 140737488355328 := by omega
  rw [call_cut tb33 rfl]
  simp [Try.f33, frz8, hm, tk_all]

theorem put24L_1 (d : Nat) (n : Nat) (h0 : lenZ n ≠ 0) (L : List Nat) (hL : L.length ≤ 600) (L' : List Nat) (hL' : L' = L ++ enc n) (e : Int) (Rw Rp Rl : List A) :
    evFn tt (cut [26, 27] tb) B6 KW 1000 (d + 2) 24 [.sl 1 0 L.length 1, .v (.int .u64 n)] [.cells [.sl 1 0 L.length 1, .v (.int .i64 e)], .row (L.map a8), .row Rw, .row Rp, .row Rl] =
      some (.tup [.sl 5 0 L'.length 1, .v (.int .i64 0)], [.cells [.sl 1 0 L.length 1, .v (.int .i64 e)], .ro (L.map a8), .row Rw, .row Rp, .row Rl, .row (L'.map a8)]) := by
  have hl := len22c [26, 27] rfl B6 KW 1000 d n [.cells [.sl 1 0 L.length 1, .v (.int .i64 e)], .row (L.map a8), .row Rw, .row Rp, .row Rl]
  have hk := k26_row d L n 1 h0 [.cells [.sl 1 0 L.length 1, .v (.int .i64 e)], .row (L.map a8), .row Rw, .row Rp, .row Rl] rfl (by omega)
  have hlen : L.length + szOf n = L'.length := by rw [hL', List.length_append, enc_len h0]
  rw [← hL', hlen] at hk
  rw [call_cut tb24 rfl]
  simp [Try.f24, hl, hk]
theorem int30L_1 (d : Nat) (n : Nat) (h0 : lenZ n ≠ 0) (L : List Nat) (hL : L.length ≤ 600) (L' : List Nat) (hL' : L' = L ++ enc n) (e : Int) (Rw Rp : List A) :
    evFn tt (cut [26, 27] tb) B6 KW 1000 (d + 3) 30 [.ptr 0 0, .sl 4 0 1 1] [.cells [.sl 1 0 L.length 1, .v (.int .i64 e)], .row (L.map a8), .row Rw, .row Rp, .row [u64A n]] = some (.tup [], [.cells [.sl 5 0 L'.length 1, .v (.int .i64 e)], .ro (L.map a8), .row Rw, .row Rp, .row [u64A n], .row (L'.map a8)]) := by
  have hp := put24L_1 d n h0 L hL L' hL' e Rw Rp [u64A n]
  have w1 : IntKind.i64.wrap 1 = 1 := by decide
  have hu : u64A n = .v (.int .u64 n) := rfl
  rw [hu] at hp ⊢
  rw [call_cut tb30 rfl]
  simp [Try.f30, KW30, evLoop_step, hp, w1]
theorem bytes32A_1 (d : Nat) (L : List Nat) (L' ys : List Nat) (hb : L'.length + ys.length ≤ 2000) (e : Int) (Rw Rp Rl : List A) :
    evFn tt (cut [26, 27] tb) B6 KW 1000 (d + 1) 32 [.ptr 0 0, .lst ys.length (ys.map a8)] [.cells [.sl 5 0 L'.length 1, .v (.int .i64 e)], .ro (L.map a8), .row Rw, .row Rp, .row Rl, .row (L'.map a8)] = some (.tup [], [.cells [.sl 6 0 (L' ++ ys).length 1, .v (.int .i64 e)], .ro (L.map a8), .row Rw, .row Rp, .row Rl, .dead, .row ((L' ++ ys).map a8)]) := by
  have hm : L'.length + ys.length ≤ 140737488355328 := by omega
  rw [call_cut tb32 rfl]
  simp [Try.f32, frz8, hm, tk_all]
theorem long31_1 (d : Nat) (L : List Nat) (hL : L.length ≤ 600) (ys M : List Nat) (hy : ys.length ≤ 300) (hM : M = L ++ enc ys.length ++ ys) (e : Int) (Rw Rp : List A) :
    evFn tt (cut [26, 27] tb) B6 KW 1000 (d + 4) 31 [.ptr 0 0, .lst ys.length (ys.map a8)] [.cells [.sl 1 0 L.length 1, .v (.int .i64 e)], .row (L.map a8), .row Rw, .row Rp] = some (.tup [], [.cells [.sl 4 0 M.length 1, .v (.int .i64 e)], .ro (L.map a8), .row Rw, .row Rp, .row (M.map a8)]) := by
  have h0 : lenZ (ys.length : Nat) ≠ 0 := by unfold lenZ; split <;> (try split) <;> omega
  have hs := sz_le h0
  have hi := int30L_1 d ys.length h0 L hL (L ++ enc ys.length) rfl e Rw Rp
  have hb := bytes32A_1 (d + 2) L (L ++ enc ys.length) ys (by simp [enc_len h0]; omega) e Rw Rp [u64A ys.length]
  rw [← hM] at hb
  have hw : IntKind.u64.wrap (ys.length : Int) = ys.length := wrapu64 (by omega) (by omega)
  generalize L ++ enc ys.length = L' at *
  have hu : u64A ys.length = .v (.int .u64 ys.length) := rfl
  rw [hu] at hi hb
  rw [call_cut tb31 rfl]
  simp [Try.f31, hw, hi, hb]
theorem bytes32B_1 (d : Nat) (L : List Nat) (M M' ys : List Nat) (hb : M.length + ys.length ≤ 2000) (hM : M' = M ++ ys) (e : Int) (Rw Rp : List A) :
    evFn tt (cut [26, 27] tb) B6 KW 1000 (d + 1) 32 [.ptr 0 0, .lst ys.length (ys.map a8)] [.cells [.sl 4 0 M.length 1, .v (.int .i64 e)], .ro (L.map a8), .row Rw, .row Rp, .row (M.map a8)] = some (.tup [], [.cells [.sl 5 0 M'.length 1, .v (.int .i64 e)], .ro (L.map a8), .row Rw, .row Rp, .dead, .row (M'.map a8)]) := by
  have hm : M.length + ys.length ≤ 140737488355328 := by omega
  subst hM
  rw [call_cut tb32 rfl]
  simp [Try.f32, frz8, hm, tk_all]
theorem put25E_1 (d : Nat) (L : List Nat) (M' : List Nat) (n : Nat) (h0 : lenZ n ≠ 0) (e : Int) (Rw Rp : List A) :
    evFn tt (cut [26, 27] tb) B6 KW 1000 (d + 2) 25 [.v (.int .u64 n)] [.cells [.sl 5 0 M'.length 1, .v (.int .i64 e)], .ro (L.map a8), .row Rw, .row Rp, .dead, .row (M'.map a8)] = some (.sl 6 0 (enc n).length 1, [.cells [.sl 5 0 M'.length 1, .v (.int .i64 e)], .ro (L.map a8), .row Rw, .row Rp, .dead, .row (M'.map a8), .row ((enc n).map a8)]) := by
  have hl := len23c [26, 27] rfl B6 KW 1000 d n [.cells [.sl 5 0 M'.length 1, .v (.int .i64 e)], .ro (L.map a8), .row Rw, .row Rp, .dead, .row (M'.map a8)]
  have hk := k27 d n h0 [.cells [.sl 5 0 M'.length 1, .v (.int .i64 e)], .ro (L.map a8), .row Rw, .row Rp, .dead, .row (M'.map a8)]
  rw [sz_len n h0] at hk
  rw [call_cut tb25 rfl]
  simp [Try.f25, hl, hk]
theorem put25I_1 (d : Nat) (L : List Nat) (n : Nat) (h0 : lenZ n ≠ 0) (e : Int) (Rw Rp : List A) :
    evFn tt (cut [26, 27] tb) B6 KW 1000 (d + 2) 25 [.v (.int .u64 n)] [.cells [.sl 1 0 L.length 1, .v (.int .i64 e)], .row (L.map a8), .row Rw, .row Rp] = some (.sl 4 0 (enc n).length 1, [.cells [.sl 1 0 L.length 1, .v (.int .i64 e)], .row (L.map a8), .row Rw, .row Rp, .row ((enc n).map a8)]) := by
  have hl := len23c [26, 27] rfl B6 KW 1000 d n [.cells [.sl 1 0 L.length 1, .v (.int .i64 e)], .row (L.map a8), .row Rw, .row Rp]
  have hk := k27 d n h0 [.cells [.sl 1 0 L.length 1, .v (.int .i64 e)], .row (L.map a8), .row Rw, .row Rp]
  rw [sz_len n h0] at hk
  rw [call_cut tb25 rfl]
  simp [Try.f25, hl, hk]
theorem done33_1 (d : Nat) (L : List Nat) (M : List Nat) (hM : M.length ≤ 2000) (Rw Rp Re : List A) :
    evFn tt (cut [26, 27] tb) B6 KW 1000 (d + 1) 33 [.ptr 0 0] [.cells [.sl 5 0 M.length 1, .v (.int .i64 0)], .ro (L.map a8), .dead, .row Rp, .dead, .row (M.map a8), .row Re, .dead, .dead, .row Rw] = some (.tup [.sl 10 0 M.length 1, .v (.int .i64 0)], [.cells [.sl 5 0 M.length 1, .v (.int .i64 0)], .ro (L.map a8), .dead, .row Rp, .dead, .row (M.map a8), .row Re, .dead, .dead, .row Rw, .row (M.map a8)]) := by
  have hm : M.length ≤ 140737488355328 := by omega
  rw [call_cut tb33 rfl]
  simp [Try.f33, frz8, hm, tk_all]
end Go.Flat
