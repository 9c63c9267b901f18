/-
  The second round of the law HeaderAny over the plain view of memory: it answers true. No condition.
-/
import Derived.Test.YtldpbpgceplejaaHdrAnyB
namespace Go.Flat
open Go.Proofs
set_option linter.unusedSimpArgs false
set_option linter.unusedVariables false
set_option maxRecDepth 100000
set_option maxHeartbeats 80000000

theorem hdrAny_round1 (bodyc : Code) (hbody : bodyc = loopOf (bodyOf Try.f11)) (b L : List Nat) (id : Int) (hb : (Rd.good b).fine) (hL : (Rd.good L).fine) :
    loopK (clean 0 [1, 29, 30, 31]) (evCode tt (evFn tt (cut LA tb) BA KA 1000 9) (D2 tt (evFn tt (cut LA tb) BA KA 1000 9)) 0 (KA 11) 1000 bodyc ⟨plc 199 .any [(1, .v (.int .i64 id)), (29, .sl 0 0 2 1), (30, .v (.int .i64 2)), (31, .v (.int .i64 1))], [.cells [lsA b, .sl 1 0 L.length 1], .row (L.map a8)]⟩) = some ⟨plc 199 .any [(1, .v (.int .i64 id)), (29, .sl 0 0 2 1), (30, .v (.int .i64 2)), (31, .v (.int .i64 2))], [.cells [lsA b, .sl 1 0 L.length 1], .ro (L.map a8)]⟩ := by
  subst hbody
  have one : IntKind.i64.wrap 2 = 2 := by decide
  rcases pa_shape L hL id with ⟨e, he, q⟩ | ⟨x, r, to, fr, tok, p, q', hx, hx256, ok, hc⟩
  · have k := fun a R => k_parse_row (K := KA) (m := 1000) (d := 8) L hL id (by rw [q]; exact ids_hErr e) a R
    rw [q] at k
    have ks := fun H => k_same0 (K := KA) (m := 1000) (d := 8) H
    simp only [hErr, hz, h6] at k ks
    simp [-clean, Option.toList, Try.f11, bodyOf, loopOf, one, k, ks, he]
  · have hlt : 0 < L.length := by rw [hx]; simp
    have hlt' : (0 : Int) < L.length := by omega
    have hlt1 : 1 ≤ L.length := hlt
    have hd : List.take 1 (List.map a8 L) = [a8 x] := by rw [hx]; rfl
    have hLb := hL.1
    have hL4 := hL.2
    clear hx
    obtain ⟨p1, pq, ql, to20, fr20, tok64⟩ := ok
    have f1 := and3 hx256
    have f2 := band (c := 12) hx256 (by decide)
    have f3 := band (c := 24) hx256 (by decide)
    have f4 := band (c := 128) hx256 (by decide)
    rw [show ((12 : Nat) : Int) = 12 from rfl] at f2
    rw [show ((24 : Nat) : Int) = 24 from rfl] at f3
    rw [show ((128 : Nat) : Int) = 128 from rfl] at f4
    obtain ⟨n, hn⟩ : ∃ n, n = x % 4 + 1 := ⟨_, rfl⟩
    have h4 : x % 4 < 4 := Nat.mod_lt _ (by decide)
    have fn : ((x % 4 : Nat) : Int) = (n : Int) - 1 := by omega
    rw [fn] at f1
    have hw0 : IntKind.i64.wrap ((n : Int) - 1) = n - 1 := wrapi64 (by omega) (by omega)
    have hw1 : IntKind.i64.wrap (n : Int) = n := wrapi64 (by omega) (by omega)
    have hw1' : IntKind.i64.wrap ((n : Int) - 1 + 1) = n := by rw [wrapi64 (by omega) (by omega)]; omega
    obtain ⟨z2, e2⟩ : ∃ z : Int, z = ((x &&& 12 : Nat) : Int) := ⟨_, rfl⟩
    obtain ⟨z3, e3⟩ : ∃ z : Int, z = ((x &&& 24 : Nat) : Int) := ⟨_, rfl⟩
    obtain ⟨z4, e4⟩ : ∃ z : Int, z = ((x &&& 128 : Nat) : Int) := ⟨_, rfl⟩
    rw [← e2] at f2
    rw [← e3] at f3
    rw [← e4] at f4
    have a1 : ¬ (p : Int) < 1 := by omega
    have a2 : ¬ (L.length : Int) < p := by omega
    have a3 : ¬ (q' : Int) < p := by omega
    have a4 : ¬ (L.length : Int) < q' := by omega
    have a5 : ¬ (20 : Int) < to.length := by omega
    have a6 : ¬ (20 : Int) < fr.length := by omega
    have a7 : ¬ (64 : Int) < tok.length := by omega
    have b1 : ¬ p < 1 := by omega
    have b1' : ¬ p = 0 := by omega
    have b2 : ¬ L.length < p := by omega
    have b3 : ¬ q' < p := by omega
    have b4 : ¬ L.length < q' := by omega
    have b5 : ¬ 20 < to.length := by omega
    have b6 : ¬ 20 < fr.length := by omega
    have b7 : ¬ 64 < tok.length := by omega
    have c1 : (p : Int) ≤ q' := by omega
    have c2 : (q' : Int) ≤ L.length := by omega
    have hwd : IntKind.i64.wrap ((q' : Int) - p) = ((q' - p : Nat) : Int) := by rw [wrapi64 (by omega) (by omega)]; omega
    have hbl : (((L.drop p).take (q' - p)).length) = q' - p := by simp; omega
    obtain ⟨D, hD⟩ : ∃ D, D = q' - p := ⟨_, rfl⟩
    have hDp : p + D ≤ L.length := by omega
    rw [← hD] at hwd hbl
    obtain ⟨X, eX⟩ : ∃ z : Int, z = (x : Int) := ⟨_, rfl⟩
    obtain ⟨DI, eDI⟩ : ∃ z : Int, z = (D : Int) := ⟨_, rfl⟩
    rw [← eDI] at hwd
    rcases hc with ⟨h128, q⟩ | ⟨h128, q | q⟩
    · have k := fun a R => k_parse_row (K := KA) (m := 1000) (d := 8) L hL id (by rw [q]; exact ids_hOk _ rfl rfl rfl _ _) a R
      rw [q] at k
      have kn := fun a R => k_num2r (K := KA) (m := 1000) (d := 8) to fr tok x hx256 L hL4 p D hDp p q' a R
      have z40 : z4 = 0 := by omega
      simp only [numN, hbl, ← hn] at kn
      simp only [hOk, nilA, pgA, h6, ← eX, show ((2 : Nat) : Int) = 2 from rfl] at k kn
      rw [← eX] at f1 f2 f3 f4
      by_cases s1 : D < n
      · have s1' : DI < n := by omega
        simp only [if_pos s1] at kn
        simp [-clean, Option.toList, Try.f11, bodyOf, loopOf, one, f1, f2, f3, f4, hw0, hw1, hw1', a1, a2, a3, a4, a5, a6, a7, b1, b1', b2, b3, b4, b5, b6, b7, c1, c2, pq, ql, hwd, hlt, hlt', hlt1, hd, ← hD, ← eX, a8, k, kn, z40, s1, s1']
      · have s1' : ¬ DI < n := by omega
        simp only [if_neg s1] at kn
        by_cases s2 : x &&& 24 = 0
        · have s2' : z3 = 0 := by omega
          simp only [if_true, if_pos s2] at kn
          obtain ⟨pn, hpn⟩ : ∃ m, m = p + n := ⟨_, rfl⟩
          have w3 : IntKind.i64.wrap ((p : Int) + n) = (pn : Int) := by rw [wrapi64 (by omega) (by omega)]; omega
          have w4 : pn - p = n := by omega
          have w5 : (p : Int) ≤ pn := by omega
          have w6 : (pn : Int) ≤ L.length := by omega
          have w7 : p ≤ pn := by omega
          have w8 : pn ≤ L.length := by omega
          have v1 := fun H => conv_part2 L hLb p D n (by omega) H
          have v2 := fun a R => conv_ro L hLb p n (by omega) a R
          have kc := fun t H => k_check2 (K := KA) (m := 1000) (d := 8) to fr tok (((L.drop p).take D).take n) t to20 fr20 tok64 (by simp; omega) (by simp; omega) H
          try simp only [nilA] at kc
          generalize (decide (2 = 2 ∧ x &&& 4 ≠ 0)) = tu at *
          simp [-evConvert, conv_u8, -clean, Option.toList, Try.f11, bodyOf, loopOf, one, f1, f2, f3, f4, hw0, hw1, hw1', a1, a2, a3, a4, a5, a6, a7, b1, b1', b2, b3, b4, b5, b6, b7, c1, c2, pq, ql, hwd, hlt, hlt', hlt1, hd, ← hD, ← eX, a8, k, kn, kc, v1, v2, z40, s1, s1', s2', w3, w4, w5, w6, w7, w8]
        · have s2' : ¬ z3 = 0 := by omega
          simp only [if_true, if_neg s2] at kn
          simp [-clean, Option.toList, Try.f11, bodyOf, loopOf, one, f1, f2, f3, f4, hw0, hw1, hw1', a1, a2, a3, a4, a5, a6, a7, b1, b1', b2, b3, b4, b5, b6, b7, c1, c2, pq, ql, hwd, hlt, hlt', hlt1, hd, ← hD, ← eX, a8, k, kn, z40, s1, s1', s2']
    · have k := fun a R => k_parse_row (K := KA) (m := 1000) (d := 8) L hL id (by rw [q]; exact ids_hOk _ rfl rfl rfl _ _) a R
      rw [q] at k
      have kn := fun a R => k_num0r (K := KA) (m := 1000) (d := 8) to fr tok x hx256 L hL4 p D hDp p q' a R
      have z40 : ¬ z4 = 0 := by omega
      simp only [numN, hbl, ← hn] at kn
      simp only [hOk, nilA, pgA, h6, ← eX, show ((0 : Nat) : Int) = 0 from rfl] at k kn
      rw [← eX] at f1 f2 f3 f4
      by_cases s1 : D < n
      · have s1' : DI < n := by omega
        simp only [if_pos s1] at kn
        simp [-clean, Option.toList, Try.f11, bodyOf, loopOf, one, f1, f2, f3, f4, hw0, hw1, hw1', a1, a2, a3, a4, a5, a6, a7, b1, b1', b2, b3, b4, b5, b6, b7, c1, c2, pq, ql, hwd, hlt, hlt', hlt1, hd, ← hD, ← eX, a8, k, kn, z40, s1, s1']
      · have s1' : ¬ DI < n := by omega
        simp only [if_neg s1] at kn
        by_cases s2 : x &&& 12 = 0
        · have s2' : z2 = 0 := by omega
          simp only [show ¬ (0 = 2) by decide, if_false, if_pos s2] at kn
          obtain ⟨pn, hpn⟩ : ∃ m, m = p + n := ⟨_, rfl⟩
          have w3 : IntKind.i64.wrap ((p : Int) + n) = (pn : Int) := by rw [wrapi64 (by omega) (by omega)]; omega
          have w4 : pn - p = n := by omega
          have w5 : (p : Int) ≤ pn := by omega
          have w6 : (pn : Int) ≤ L.length := by omega
          have w7 : p ≤ pn := by omega
          have w8 : pn ≤ L.length := by omega
          have v1 := fun H => conv_part2 L hLb p D n (by omega) H
          have v2 := fun a R => conv_ro L hLb p n (by omega) a R
          have kc := fun H => k_check0 (K := KA) (m := 1000) (d := 8) to fr tok (((L.drop p).take D).take n) false to20 fr20 tok64 (by simp; omega) (by simp; omega) H
          try simp only [nilA] at kc
          skip
          simp [-evConvert, conv_u8, -clean, Option.toList, Try.f11, bodyOf, loopOf, one, f1, f2, f3, f4, hw0, hw1, hw1', a1, a2, a3, a4, a5, a6, a7, b1, b1', b2, b3, b4, b5, b6, b7, c1, c2, pq, ql, hwd, hlt, hlt', hlt1, hd, ← hD, ← eX, a8, k, kn, kc, v1, v2, z40, s1, s1', s2', w3, w4, w5, w6, w7, w8]
        · have s2' : ¬ z2 = 0 := by omega
          simp only [show ¬ (0 = 2) by decide, if_false, if_neg s2] at kn
          simp [-clean, Option.toList, Try.f11, bodyOf, loopOf, one, f1, f2, f3, f4, hw0, hw1, hw1', a1, a2, a3, a4, a5, a6, a7, b1, b1', b2, b3, b4, b5, b6, b7, c1, c2, pq, ql, hwd, hlt, hlt', hlt1, hd, ← hD, ← eX, a8, k, kn, z40, s1, s1', s2']
    · have k := fun a R => k_parse_row (K := KA) (m := 1000) (d := 8) L hL id (by rw [q]; exact ids_hOk _ rfl rfl rfl _ _) a R
      rw [q] at k
      have kn := fun a R => k_num1r (K := KA) (m := 1000) (d := 8) to fr tok x hx256 L hL4 p D hDp p q' a R
      have z40 : ¬ z4 = 0 := by omega
      simp only [numN, hbl, ← hn] at kn
      simp only [hOk, nilA, pgA, h6, ← eX, show ((1 : Nat) : Int) = 1 from rfl] at k kn
      rw [← eX] at f1 f2 f3 f4
      by_cases s1 : D < n
      · have s1' : DI < n := by omega
        simp only [if_pos s1] at kn
        simp [-clean, Option.toList, Try.f11, bodyOf, loopOf, one, f1, f2, f3, f4, hw0, hw1, hw1', a1, a2, a3, a4, a5, a6, a7, b1, b1', b2, b3, b4, b5, b6, b7, c1, c2, pq, ql, hwd, hlt, hlt', hlt1, hd, ← hD, ← eX, a8, k, kn, z40, s1, s1']
      · have s1' : ¬ DI < n := by omega
        simp only [if_neg s1] at kn
        by_cases s2 : x &&& 12 = 0
        · have s2' : z2 = 0 := by omega
          simp only [show ¬ (1 = 2) by decide, if_false, if_pos s2] at kn
          obtain ⟨pn, hpn⟩ : ∃ m, m = p + n := ⟨_, rfl⟩
          have w3 : IntKind.i64.wrap ((p : Int) + n) = (pn : Int) := by rw [wrapi64 (by omega) (by omega)]; omega
          have w4 : pn - p = n := by omega
          have w5 : (p : Int) ≤ pn := by omega
          have w6 : (pn : Int) ≤ L.length := by omega
          have w7 : p ≤ pn := by omega
          have w8 : pn ≤ L.length := by omega
          have v1 := fun H => conv_part2 L hLb p D n (by omega) H
          have v2 := fun a R => conv_ro L hLb p n (by omega) a R
          have kc := fun H => k_check1 (K := KA) (m := 1000) (d := 8) to fr tok (((L.drop p).take D).take n) false to20 fr20 tok64 (by simp; omega) (by simp; omega) H
          try simp only [nilA] at kc
          skip
          simp [-evConvert, conv_u8, -clean, Option.toList, Try.f11, bodyOf, loopOf, one, f1, f2, f3, f4, hw0, hw1, hw1', a1, a2, a3, a4, a5, a6, a7, b1, b1', b2, b3, b4, b5, b6, b7, c1, c2, pq, ql, hwd, hlt, hlt', hlt1, hd, ← hD, ← eX, a8, k, kn, kc, v1, v2, z40, s1, s1', s2', w3, w4, w5, w6, w7, w8]
        · have s2' : ¬ z2 = 0 := by omega
          simp only [show ¬ (1 = 2) by decide, if_false, if_neg s2] at kn
          simp [-clean, Option.toList, Try.f11, bodyOf, loopOf, one, f1, f2, f3, f4, hw0, hw1, hw1', a1, a2, a3, a4, a5, a6, a7, b1, b1', b2, b3, b4, b5, b6, b7, c1, c2, pq, ql, hwd, hlt, hlt', hlt1, hd, ← hD, ← eX, a8, k, kn, z40, s1, s1', s2']
end Go.Flat
