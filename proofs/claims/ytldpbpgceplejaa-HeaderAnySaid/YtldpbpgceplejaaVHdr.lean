/-
  header.Parse of layer 9 over the plain view of memory: what it answers, by what the reader reads. No condition but that bytes are bytes.
-/
import Derived.Test.YtldpbpgceplejaaVRd
namespace Go.Flat
open Go.Proofs
set_option linter.unusedSimpArgs false
set_option linter.unusedVariables false
set_option maxRecDepth 100000
set_option maxHeartbeats 4000000

abbrev lsA (L : List Nat) : A := .lst L.length (L.map a8)
theorem lsA_def (L : List Nat) : lsA L = .lst L.length (L.map a8) := rfl
def nilA : A := .v (.slice none 0 0)

def idN (s : Rd) : List Nat × Rd := bytesN (byteN s) (if 20 < byteN s then failN 6 (bytesN 1 s).2 else (bytesN 1 s).2)
theorem id_mid {s : Rd} (h : s.fine) : (if 20 < byteN s then failN 6 (bytesN 1 s).2 else (bytesN 1 s).2).fine := by
  split
  · exact fail_fine 6 (by decide) (bytes_fine 1 h)
  · exact bytes_fine 1 h
theorem id_fine {s : Rd} (h : s.fine) : (idN s).2.fine := bytes_fine _ (id_mid h)
/-- How long an id may be. -/
def kid (i : Int) : Int := if i < 0 then 0 else if 20 < i then 20 else i
/-- What a header's fields are: none of them known. -/
def hz : List A := [.v (.int .u8 0), .v (.slice none 0 0), .v (.slice none 0 0), .v (.slice none 0 0), .v (.bool false), .v (.slice none 0 0), .v (.int .i64 0), .v (.int .i64 0)]
def hErr (e : Int) : A := .tup [.agg hz, .v (.int .i64 e)]
def hOk (sp : Int) (to fr tok : A) (at' en : Int) : A := .tup [.agg [.v (.int .u8 sp), to, fr, tok, .v (.bool false), .v (.slice none 0 0), .v (.int .i64 at'), .v (.int .i64 en)], .v (.int .i64 0)]

section
variable {K : FuncId → Nat → List Nat} {m d : Nat}
theorem h_id (s : Rd) (hs : s.fine) (a : Ob) (R : List Ob) : evFn tt (cut LR tb) BR K m (d + 2) 121 [.ptr 1 0] (a :: rd s :: R) = some (lsA (idN s).1, a :: rd (idN s).2 :: R) := by
  rw [call_cut tb121 rfl]
  have hb := byte_lt hs
  have hw : IntKind.i64.wrap (byteN s : Int) = byteN s := wrapi64 (by omega) (by omega)
  have h1 := bytes_fine 1 hs
  have h2 := id_mid hs
  have r1 := R_byte1 (K := K) (m := m) (d := d) s hs a R
  have r2 := R_fail1 (K := K) (m := m) (d := d) 6 (bytesN 1 s).2 h1 a R
  have r3 := R_bytes1 (K := K) (m := m) (d := d) (byteN s) _ h2 a R
  unfold idN
  by_cases h : 20 < byteN s
  · have h' : (20 : Int) < byteN s := by omega
    rw [if_pos h] at r3 ⊢
    simp [Try.f121, r1, r2, r3, hw, h', lsA]
  · have h' : ¬ (20 : Int) < byteN s := by omega
    rw [if_neg h] at r3 ⊢
    simp [Try.f121, r1, r2, r3, hw, h', lsA]

def shN (L : List Nat) (i : Int) : A :=
  if eN (bytesN (kid i) (bytesN 1 (.good L)).2).2 = 0 then hOk 2 (lsA (bytesN (kid i) (bytesN 1 (.good L)).2).1) nilA nilA (L.length - lenN (bytesN (kid i) (bytesN 1 (.good L)).2).2) L.length
  else hErr (eN (bytesN (kid i) (bytesN 1 (.good L)).2).2)
theorem h_short (L : List Nat) (hL : (Rd.good L).fine) (i : Int) : evFn tt (cut LR tb) BR K m (d + 2) 92 [lsA L, .v (.int .i64 i)] [] = some (shN L i, []) := by
  rw [call_cut tb92 rfl]
  obtain ⟨k, hk⟩ : ∃ k, k = kid i := ⟨_, rfl⟩
  have h1 := bytes_fine 1 hL
  have h2 := bytes_fine k h1
  have b2 := len_le h2
  have lL := hL.2
  unfold shN
  rw [← hk]
  obtain ⟨s1, e1⟩ : ∃ s, s = (bytesN 1 (.good L)).2 := ⟨_, rfl⟩
  obtain ⟨p2, e2⟩ : ∃ p, p = bytesN k s1 := ⟨_, rfl⟩
  rw [← e1] at h1 h2 b2 ⊢
  rw [← e2] at h2 b2 ⊢
  have r0 := fun H => R_read (K := K) (m := m) (d := d) L H
  have r1 := fun a R => R_byte1 (K := K) (m := m) (d := d) (.good L) hL a R
  have r2 := fun a R => R_bytes1 (K := K) (m := m) (d := d) k s1 h1 a R
  have r3 := fun a R => R_err1 (K := K) (m := m) (d := d) p2.2 a R
  have r4 := fun a R => R_left1 (K := K) (m := m) (d := d) p2.2 a R
  rw [← e1] at r1
  rw [← e2] at r2
  have hw : IntKind.i64.wrap ((L.length : Int) - lenN p2.2) = L.length - lenN p2.2 := wrapi64 (by omega) (by omega)
  have hc : (i < 0 ∧ k = 0) ∨ (20 < i ∧ k = 20) ∨ (¬ i < 0 ∧ ¬ 20 < i ∧ k = i) := by
    rw [hk]; unfold kid; split
    · exact .inl ⟨by assumption, rfl⟩
    · split
      · exact .inr (.inl ⟨by assumption, rfl⟩)
      · exact .inr (.inr ⟨by assumption, by assumption, rfl⟩)
  generalize (Rd.good L) = s0 at *
  rw [lsA_def L]
  by_cases he : eN p2.2 = 0
  · rcases hc with ⟨c1, rfl⟩ | ⟨c1, rfl⟩ | ⟨c1, c2, rfl⟩
    · simp [Try.f92, r0, r1, r2, r3, r4, he, hw, c1, hOk, nilA, lsA]
    · have c2 : ¬ i < 0 := by omega
      simp [Try.f92, r0, r1, r2, r3, r4, he, hw, c1, c2, hOk, nilA, lsA]
    · simp [Try.f92, r0, r1, r2, r3, r4, he, hw, c1, c2, hOk, nilA, lsA]
  · rcases hc with ⟨c1, rfl⟩ | ⟨c1, rfl⟩ | ⟨c1, c2, rfl⟩
    · simp [Try.f92, r0, r1, r2, r3, r4, he, hw, c1, hErr, hz, lsA]
    · have c2 : ¬ i < 0 := by omega
      simp [Try.f92, r0, r1, r2, r3, r4, he, hw, c1, c2, hErr, hz, lsA]
    · simp [Try.f92, r0, r1, r2, r3, r4, he, hw, c1, c2, hErr, hz, lsA]

/-- The last byte of 32 bits that say the version. -/
def ver (v : List Nat) : Bool := v.length != 4 || v == [0, 0, 0, 1]
structure LN where
  (v to fr tok : List Nat) (n : Nat) (s : Rd)
def lnN (L : List Nat) (sp : Nat) : LN :=
  let q2 := bytesN 4 (bytesN 1 (.good L)).2
  let q3 := idN q2.2
  let q4 := idN q3.2
  let q5 := if sp = 0 then longN 64 q4.2 else ([], q4.2)
  let q6 := countN 1204 q5.2
  ⟨q2.1, q3.1, q4.1, q5.1, q6.1, q6.2⟩
def spN (b : Nat) : Option Nat := if b / 16 % 4 = 0 then some 0 else if b / 16 % 4 = 2 then some 1 else none
def loN (L : List Nat) : A :=
  match spN (byteN (.good L)) with
  | none => hErr 5
  | some sp =>
    if ver (lnN L sp).v then
      if eN (lnN L sp).s = 0 then
        if lenN (lnN L sp).s < (lnN L sp).n then hErr 3 else hOk sp (lsA (lnN L sp).to) (lsA (lnN L sp).fr) (if sp = 0 then lsA (lnN L sp).tok else nilA) (L.length - lenN (lnN L sp).s) (L.length - lenN (lnN L sp).s + (lnN L sp).n)
      else hErr (eN (lnN L sp).s)
    else hErr 12

theorem shr16 (b : Nat) : Int.fdiv (b : Int) 16 = ((b / 16 : Nat) : Int) := by rw [Int.fdiv_eq_ediv_of_nonneg _ (by omega)]; omega
theorem and3 {x : Nat} (hx : x < 256) : bits .and .u8 (x : Int) 3 = ((x % 4 : Nat) : Int) := by
  have := (bits_nat .u8 8 (by decide) (fun n h0 h1 => by simp [IntKind.wrap, IntKind.signed, IntKind.bits]; omega) x 3 (by omega) (by omega)).1
  rw [show ((3 : Nat) : Int) = 3 from rfl] at this
  rw [this, show 3 = 2 ^ 2 - 1 from rfl, Nat.and_two_pow_sub_one_eq_mod]

theorem h_long (L : List Nat) (hL : (Rd.good L).fine) : evFn tt (cut LR tb) BR K m (d + 3) 93 [lsA L] [] = some (loN L, []) := by
  rw [call_cut tb93 rfl]
  have lL := hL.2
  have hb := byte_lt hL
  have r0 := fun H => R_read (K := K) (m := m) (d := d + 1) L H
  have r1 := fun a R => R_byte1 (K := K) (m := m) (d := d + 1) (.good L) hL a R
  have hq1 := bytes_fine 1 hL
  have hq2 := bytes_fine 4 hq1
  have hv2 := bytes_lt 4 hq1
  have hq3 := id_fine hq2
  have hq4 := id_fine hq3
  have r2 := fun a R => R_bytes1 (K := K) (m := m) (d := d + 1) 4 _ hq1 a R
  have r3 := fun a R => h_id (K := K) (m := m) (d := d) _ hq2 a R
  have r4 := fun a R => h_id (K := K) (m := m) (d := d) _ hq3 a R
  have r5 := fun a R => R_long1 (K := K) (m := m) (d := d + 1) 64 _ hq4 (by decide) a R
  have hq5 : (if byteN (.good L) / 16 % 4 = 0 then longN 64 (idN (idN (bytesN 4 (bytesN 1 (.good L)).2).2).2).2 else ([], (idN (idN (bytesN 4 (bytesN 1 (.good L)).2).2).2).2)).2.fine := by
    split
    · exact bytes_fine _ (count_fine _ hq4)
    · exact hq4
  have f1 := shr16 (byteN (.good L))
  have f2 := and3 (x := byteN (.good L) / 16) (by omega)
  unfold loN spN
  generalize byteN (.good L) = b at *
  obtain ⟨c, hc⟩ : ∃ z : Int, z = ((b / 16 : Nat) : Int) := ⟨_, rfl⟩
  rw [← hc] at f1 f2
  by_cases c0 : b / 16 % 4 = 0
  · rw [if_pos c0]
    dsimp only
    rw [if_pos c0] at hq5
    simp only [lnN, if_true]
    have r6 := fun a R => R_count1 (K := K) (m := m) (d := d + 1) 1204 _ hq5 (by decide) a R
    have hq6 := count_fine 1204 hq5
    have hle := count_le (s := (longN 64 (idN (idN (bytesN 4 (bytesN 1 (.good L)).2).2).2).2).2) 1204
    generalize (Rd.good L) = s0 at *
    generalize (bytesN 1 s0).2 = s1 at *
    generalize bytesN 4 s1 = q2 at *
    generalize idN q2.2 = q3 at *
    generalize idN q3.2 = q4 at *
    generalize longN 64 q4.2 = q5 at *
    generalize countN 1204 q5.2 = q6 at *
    have r7 := fun a R => R_err1 (K := K) (m := m) (d := d + 1) q6.2 a R
    have r8 := fun a R => R_left1 (K := K) (m := m) (d := d + 1) q6.2 a R
    have b6 := len_le hq6
    rw [c0] at f2
    obtain ⟨v, s2⟩ := q2
    have hw : IntKind.i64.wrap ((L.length : Int) - lenN q6.2) = L.length - lenN q6.2 := wrapi64 (by omega) (by omega)
    have hw2 : IntKind.i64.wrap ((L.length : Int) - lenN q6.2 + (q6.1 : Int)) = L.length - lenN q6.2 + q6.1 := wrapi64 (by simp at hle; omega) (by simp at hle; omega)
    clear hq1 hq2 hq3 hq4 hq5 hq6 hL
    simp only at r2 r3 r4 hv2 ⊢
    rw [lsA_def L]
    by_cases hv : v.length = 4
    · obtain ⟨v0, v1, v2, v3, rfl⟩ : ∃ a b c e, v = [a, b, c, e] := by
        match v, hv with
        | [a, b, c, e], _ => exact ⟨a, b, c, e, rfl⟩
      by_cases g0 : v0 = 0
      · subst g0
        by_cases g1 : v1 = 0
        · subst g1
          by_cases g2 : v2 = 0
          · subst g2
            by_cases g3 : v3 = 1
            · subst g3
              rw [if_pos (by decide)]
              by_cases he : eN q6.2 = 0
              · by_cases hlt : lenN q6.2 < q6.1
                · simp [Try.f93, undef, a8, r0, r1, r2, r3, r4, r5, r6, r7, r8, f1, f2, hOk, hErr, hz, nilA, he, hlt, hw, hw2]
                · simp [Try.f93, undef, a8, r0, r1, r2, r3, r4, r5, r6, r7, r8, f1, f2, hOk, hErr, hz, nilA, he, hlt, hw, hw2]
              · simp [Try.f93, undef, a8, r0, r1, r2, r3, r4, r5, r6, r7, r8, f1, f2, hOk, hErr, hz, nilA, he, hw, hw2]
            · rw [if_neg (by simp [ver, g3])]
              have g3' : ¬ ((v3 : Int) = 1) := by omega
              simp [Try.f93, undef, a8, r0, r1, r2, r3, r4, r5, r6, r7, r8, f1, f2, hOk, hErr, hz, nilA, g3, g3']
          · rw [if_neg (by simp [ver, g2])]
            simp [Try.f93, undef, a8, r0, r1, r2, r3, r4, r5, r6, r7, r8, f1, f2, hOk, hErr, hz, nilA, g2]
        · rw [if_neg (by simp [ver, g1])]
          simp [Try.f93, undef, a8, r0, r1, r2, r3, r4, r5, r6, r7, r8, f1, f2, hOk, hErr, hz, nilA, g1]
      · rw [if_neg (by simp [ver, g0])]
        simp [Try.f93, undef, a8, r0, r1, r2, r3, r4, r5, r6, r7, r8, f1, f2, hOk, hErr, hz, nilA, g0]
    · have hv' : ¬ ((v.length : Int) = 4) := by omega
      rw [if_pos (by simp [ver, hv])]
      by_cases he : eN q6.2 = 0
      · by_cases hlt : lenN q6.2 < q6.1
        · simp [Try.f93, undef, a8, r0, r1, r2, r3, r4, r5, r6, r7, r8, f1, f2, hOk, hErr, hz, nilA, hv, hv', he, hlt, hw, hw2]
        · simp [Try.f93, undef, a8, r0, r1, r2, r3, r4, r5, r6, r7, r8, f1, f2, hOk, hErr, hz, nilA, hv, hv', he, hlt, hw, hw2]
      · simp [Try.f93, undef, a8, r0, r1, r2, r3, r4, r5, r6, r7, r8, f1, f2, hOk, hErr, hz, nilA, hv, hv', he, hw, hw2]
  · rw [if_neg c0]
    by_cases c2 : b / 16 % 4 = 2
    · rw [if_pos c2]
      dsimp only
      rw [if_neg c0] at hq5
      simp only [lnN, Nat.one_ne_zero, if_false]
      have r6 := fun a R => R_count1 (K := K) (m := m) (d := d + 1) 1204 _ hq5 (by decide) a R
      have hq6 := count_fine 1204 hq5
      have hle := count_le (s := (idN (idN (bytesN 4 (bytesN 1 (.good L)).2).2).2).2) 1204
      simp only at r6 hq6
      generalize (Rd.good L) = s0 at *
      generalize (bytesN 1 s0).2 = s1 at *
      generalize bytesN 4 s1 = q2 at *
      generalize idN q2.2 = q3 at *
      generalize idN q3.2 = q4 at *
      generalize countN 1204 q4.2 = q6 at *
      have r7 := fun a R => R_err1 (K := K) (m := m) (d := d + 1) q6.2 a R
      have r8 := fun a R => R_left1 (K := K) (m := m) (d := d + 1) q6.2 a R
      have b6 := len_le hq6
      rw [c2] at f2
      obtain ⟨v, s2⟩ := q2
      have hw : IntKind.i64.wrap ((L.length : Int) - lenN q6.2) = L.length - lenN q6.2 := wrapi64 (by omega) (by omega)
      have hw2 : IntKind.i64.wrap ((L.length : Int) - lenN q6.2 + (q6.1 : Int)) = L.length - lenN q6.2 + q6.1 := wrapi64 (by simp at hle; omega) (by simp at hle; omega)
      clear hq1 hq2 hq3 hq4 hq5 hq6 hL
      simp only at r2 r3 r4 hv2 ⊢
      rw [lsA_def L]
      by_cases hv : v.length = 4
      · obtain ⟨v0, v1, v2, v3, rfl⟩ : ∃ a b c e, v = [a, b, c, e] := by
          match v, hv with
          | [a, b, c, e], _ => exact ⟨a, b, c, e, rfl⟩
        by_cases g0 : v0 = 0
        · subst g0
          by_cases g1 : v1 = 0
          · subst g1
            by_cases g2 : v2 = 0
            · subst g2
              by_cases g3 : v3 = 1
              · subst g3
                rw [if_pos (by decide)]
                by_cases he : eN q6.2 = 0
                · by_cases hlt : lenN q6.2 < q6.1
                  · simp [Try.f93, undef, a8, r0, r1, r2, r3, r4, r5, r6, r7, r8, f1, f2, hOk, hErr, hz, nilA, he, hlt, hw, hw2]
                  · simp [Try.f93, undef, a8, r0, r1, r2, r3, r4, r5, r6, r7, r8, f1, f2, hOk, hErr, hz, nilA, he, hlt, hw, hw2]
                · simp [Try.f93, undef, a8, r0, r1, r2, r3, r4, r5, r6, r7, r8, f1, f2, hOk, hErr, hz, nilA, he, hw, hw2]
              · rw [if_neg (by simp [ver, g3])]
                have g3' : ¬ ((v3 : Int) = 1) := by omega
                simp [Try.f93, undef, a8, r0, r1, r2, r3, r4, r5, r6, r7, r8, f1, f2, hOk, hErr, hz, nilA, g3, g3']
            · rw [if_neg (by simp [ver, g2])]
              simp [Try.f93, undef, a8, r0, r1, r2, r3, r4, r5, r6, r7, r8, f1, f2, hOk, hErr, hz, nilA, g2]
          · rw [if_neg (by simp [ver, g1])]
            simp [Try.f93, undef, a8, r0, r1, r2, r3, r4, r5, r6, r7, r8, f1, f2, hOk, hErr, hz, nilA, g1]
        · rw [if_neg (by simp [ver, g0])]
          simp [Try.f93, undef, a8, r0, r1, r2, r3, r4, r5, r6, r7, r8, f1, f2, hOk, hErr, hz, nilA, g0]
      · have hv' : ¬ ((v.length : Int) = 4) := by omega
        rw [if_pos (by simp [ver, hv])]
        by_cases he : eN q6.2 = 0
        · by_cases hlt : lenN q6.2 < q6.1
          · simp [Try.f93, undef, a8, r0, r1, r2, r3, r4, r5, r6, r7, r8, f1, f2, hOk, hErr, hz, nilA, hv, hv', he, hlt, hw, hw2]
          · simp [Try.f93, undef, a8, r0, r1, r2, r3, r4, r5, r6, r7, r8, f1, f2, hOk, hErr, hz, nilA, hv, hv', he, hlt, hw, hw2]
        · simp [Try.f93, undef, a8, r0, r1, r2, r3, r4, r5, r6, r7, r8, f1, f2, hOk, hErr, hz, nilA, hv, hv', he, hw, hw2]
    · rw [if_neg c2]
      dsimp only
      obtain ⟨z, hz'⟩ : ∃ z : Int, z = ((b / 16 % 4 : Nat) : Int) := ⟨_, rfl⟩
      rw [← hz'] at f2
      have z0 : ¬ z = 0 := by omega
      have z2 : ¬ z = 2 := by omega
      rw [lsA_def L]
      simp [Try.f93, r0, r1, f1, f2, z0, z2, hErr, hz]
end
end Go.Flat
