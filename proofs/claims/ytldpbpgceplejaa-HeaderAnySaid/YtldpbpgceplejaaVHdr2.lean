/-
  header.Parse, header.Numbered over the plain view of memory: what they answer. No condition but that bytes are bytes.
-/
import Derived.Test.YtldpbpgceplejaaVHdr
namespace Go.Flat
open Go.Proofs
set_option linter.unusedSimpArgs false
set_option linter.unusedVariables false
set_option maxRecDepth 100000
set_option maxHeartbeats 4000000

theorem band {x c : Nat} (hx : x < 256) (hc : c < 256) : bits .and .u8 (x : Int) (c : Int) = ((x &&& c : Nat) : Int) :=
  (bits_nat .u8 8 (by decide) (fun n h0 h1 => by simp [IntKind.wrap, IntKind.signed, IntKind.bits]; omega) x c (by omega) (by omega)).1

def paN (L : List Nat) (i : Int) : A :=
  match L with
  | [] => hErr 3
  | x :: r => if x &&& 64 = 0 then hErr 4 else if x &&& 128 = 0 then shN (x :: r) i else loN (x :: r)

theorem fail_bad (e : Int) (he : e ≠ 0) (s : Rd) (hs : s.fine) : eN (failN e s) ≠ 0 := by
  cases s with
  | good L => exact he
  | bad e' => exact hs
theorem bytes_ok {k : Int} {s : Rd} (hs : s.fine) (h : eN (bytesN k s).2 = 0) : ∃ L, s = .good L ∧ 0 ≤ k ∧ k ≤ L.length ∧ bytesN k s = (L.take k.toNat, .good (L.drop k.toNat)) := by
  cases s with
  | bad e => exact absurd h hs
  | good L =>
    simp only [bytesN] at h ⊢
    split at h
    · cases h
    · rename_i hc
      exact ⟨L, rfl, by omega, by omega, by rw [if_neg hc]⟩
theorem bytes_good {k : Int} {s : Rd} (hs : s.fine) (h : eN (bytesN k s).2 = 0) : eN s = 0 ∧ ((bytesN k s).1.length : Int) = k ∧ lenN (bytesN k s).2 = lenN s - k ∧ 0 ≤ k := by
  obtain ⟨L, rfl, h0, h1, e⟩ := bytes_ok hs h
  rw [e]
  refine ⟨rfl, ?_, ?_, h0⟩
  · simp only [List.length_take]; omega
  · simp only [lenN, List.length_drop]; omega
theorem int_good {s : Rd} (hs : s.fine) (h : eN (intN s).2 = 0) : eN s = 0 ∧ lenN (intN s).2 ≤ lenN s := by
  cases s with
  | bad e => exact absurd h hs
  | good L =>
    simp only [intN] at h ⊢
    cases ht : tk L with
    | none => rw [ht] at h; cases h
    | some p =>
      refine ⟨rfl, ?_⟩
      simp only [lenN, List.length_drop]
      omega
theorem count_good {k : Int} {s : Rd} (hs : s.fine) (h : eN (countN k s).2 = 0) : eN s = 0 ∧ lenN (countN k s).2 ≤ lenN s := by
  unfold countN at h ⊢
  generalize (if k < 0 then (0 : Int) else k) = mx at *
  split at h
  · rename_i hc
    rw [if_pos hc]
    exact int_good hs h
  · exact absurd h (fail_bad 2 (by decide) _ (int_fine hs).1)
theorem id_good {s : Rd} (hs : s.fine) (h : eN (idN s).2 = 0) : eN s = 0 ∧ (idN s).1.length ≤ 20 ∧ lenN (idN s).2 ≤ lenN s := by
  unfold idN at h ⊢
  obtain ⟨h1, h2, h3, h4⟩ := bytes_good (id_mid hs) h
  split at h1
  · exact absurd h1 (fail_bad 6 (by decide) _ (bytes_fine 1 hs))
  · rename_i hc
    rw [if_neg hc] at h2 h3 ⊢
    obtain ⟨k1, k2, k3, k4⟩ := bytes_good hs h1
    exact ⟨k1, by omega, by omega⟩
theorem long_good {k : Int} {s : Rd} (hs : s.fine) (hk : 0 ≤ k) (h : eN (longN k s).2 = 0) : eN s = 0 ∧ ((longN k s).1.length : Int) ≤ k ∧ lenN (longN k s).2 ≤ lenN s := by
  unfold longN at h ⊢
  obtain ⟨h1, h2, h3, h4⟩ := bytes_good (count_fine k hs) h
  obtain ⟨k1, k2⟩ := count_good hs h1
  have := count_le (s := s) k
  rw [if_neg (by omega)] at this
  exact ⟨k1, by omega, by omega⟩
theorem kid_le (i : Int) : 0 ≤ kid i ∧ kid i ≤ 20 := by
  unfold kid
  split
  · omega
  · split <;> omega
theorem first_good {L : List Nat} {x : Nat} {r : List Nat} (h : L = x :: r) : lenN (bytesN 1 (.good L)).2 = (L.length : Int) - 1 := by
  subst h
  have : ¬ ((1 : Int) < 0 ∨ (((x :: r).length : Nat) : Int) < 1) := by simp only [List.length_cons]; omega
  have e : bytesN 1 (.good (x :: r)) = ((x :: r).take 1, .good ((x :: r).drop 1)) := by simp only [bytesN]; rw [if_neg this]; rfl
  rw [e]
  simp only [lenN, List.length_drop, List.length_cons]
  omega

/-- What is known of a header that stands there. -/
structure HOk (L to fr tok : List Nat) (p q : Nat) : Prop where
  p1 : 1 ≤ p
  pq : p ≤ q
  ql : q ≤ L.length
  to20 : to.length ≤ 20
  fr20 : fr.length ≤ 20
  tok64 : tok.length ≤ 64
theorem sh_shape {L : List Nat} {x : Nat} {r : List Nat} (h : L = x :: r) (hL : (Rd.good L).fine) (i : Int) : (∃ e, e ≠ 0 ∧ shN L i = hErr e) ∨ ∃ to p q, HOk L to [] [] p q ∧ shN L i = hOk 2 (lsA to) nilA nilA ((p : Nat) : Int) ((q : Nat) : Int) := by
  unfold shN
  split
  · rename_i he
    obtain ⟨h1, h2, h3, h4⟩ := bytes_good (bytes_fine 1 hL) he
    have hk := kid_le i
    have hb := len_le (bytes_fine (kid i) (bytes_fine 1 hL))
    rw [first_good h] at h3
    have e : (((L.length - lenN (bytesN (kid i) (bytesN 1 (Rd.good L)).2).2).toNat : Nat) : Int) = L.length - lenN (bytesN (kid i) (bytesN 1 (Rd.good L)).2).2 := by omega
    refine .inr ⟨(bytesN (kid i) (bytesN 1 (Rd.good L)).2).1, (L.length - lenN (bytesN (kid i) (bytesN 1 (Rd.good L)).2).2).toNat, L.length, ⟨by omega, by omega, Nat.le_refl _, by omega, Nat.zero_le _, Nat.zero_le _⟩, ?_⟩
    rw [e]
  · rename_i he
    exact .inl ⟨_, he, rfl⟩
theorem lo_shape {L : List Nat} {x : Nat} {r : List Nat} (h : L = x :: r) (hL : (Rd.good L).fine) : (∃ e, e ≠ 0 ∧ loN L = hErr e) ∨ ∃ to fr tok p q, HOk L to fr tok p q ∧ (loN L = hOk 0 (lsA to) (lsA fr) (lsA tok) ((p : Nat) : Int) ((q : Nat) : Int) ∨ loN L = hOk 1 (lsA to) (lsA fr) nilA ((p : Nat) : Int) ((q : Nat) : Int)) := by
  unfold loN
  split
  · exact .inl ⟨5, by decide, rfl⟩
  · rename_i sp hsp
    split
    · split
      · rename_i hv he
        split
        · exact .inl ⟨3, by decide, rfl⟩
        · rename_i hlt
          have hq1 := bytes_fine 1 hL
          have hq2 := bytes_fine 4 hq1
          have hq3 := id_fine hq2
          have hq4 := id_fine hq3
          have hsp' : sp = 0 ∨ sp = 1 := by
            unfold spN at hsp
            split at hsp
            · exact .inl (Option.some.inj hsp).symm
            · split at hsp
              · exact .inr (Option.some.inj hsp).symm
              · cases hsp
          have h0 := first_good h
          rcases hsp' with rfl | rfl
          · simp only [lnN, if_true] at he hlt ⊢
            have hq5 : (longN 64 (idN (idN (bytesN 4 (bytesN 1 (.good L)).2).2).2).2).2.fine := bytes_fine _ (count_fine 64 hq4)
            obtain ⟨a1, a2⟩ := count_good (s := (longN 64 (idN (idN (bytesN 4 (bytesN 1 (.good L)).2).2).2).2).2) hq5 he
            obtain ⟨b1, b2, b3⟩ := long_good hq4 (by decide) a1
            obtain ⟨c1, c2, c3⟩ := id_good hq3 b1
            obtain ⟨d1, d2, d3⟩ := id_good hq2 c1
            obtain ⟨e1, e2, e3, e4⟩ := bytes_good hq1 d1
            have hb := len_le (count_fine 1204 (s := (longN 64 (idN (idN (bytesN 4 (bytesN 1 (.good L)).2).2).2).2).2) hq5)
            have e1' : (((L.length - lenN (countN 1204 (longN 64 (idN (idN (bytesN 4 (bytesN 1 (.good L)).2).2).2).2).2).2).toNat : Nat) : Int) = L.length - lenN (countN 1204 (longN 64 (idN (idN (bytesN 4 (bytesN 1 (.good L)).2).2).2).2).2).2 := by omega
            have e2' : (((L.length - lenN (countN 1204 (longN 64 (idN (idN (bytesN 4 (bytesN 1 (.good L)).2).2).2).2).2).2 + (countN 1204 (longN 64 (idN (idN (bytesN 4 (bytesN 1 (.good L)).2).2).2).2).2).1).toNat : Nat) : Int) = L.length - lenN (countN 1204 (longN 64 (idN (idN (bytesN 4 (bytesN 1 (.good L)).2).2).2).2).2).2 + (countN 1204 (longN 64 (idN (idN (bytesN 4 (bytesN 1 (.good L)).2).2).2).2).2).1 := by omega
            refine .inr ⟨(idN (bytesN 4 (bytesN 1 (.good L)).2).2).1, (idN (idN (bytesN 4 (bytesN 1 (.good L)).2).2).2).1, (longN 64 (idN (idN (bytesN 4 (bytesN 1 (.good L)).2).2).2).2).1, (L.length - lenN (countN 1204 (longN 64 (idN (idN (bytesN 4 (bytesN 1 (.good L)).2).2).2).2).2).2).toNat, (L.length - lenN (countN 1204 (longN 64 (idN (idN (bytesN 4 (bytesN 1 (.good L)).2).2).2).2).2).2 + (countN 1204 (longN 64 (idN (idN (bytesN 4 (bytesN 1 (.good L)).2).2).2).2).2).1).toNat, ⟨by omega, by omega, by omega, d2, c2, by omega⟩, .inl ?_⟩
            rw [e1', e2']
            simp only [Int.natCast_zero, if_true]
          · simp only [lnN, Nat.one_ne_zero, if_false] at he hlt ⊢
            obtain ⟨a1, a2⟩ := count_good (s := (idN (idN (bytesN 4 (bytesN 1 (.good L)).2).2).2).2) hq4 he
            obtain ⟨c1, c2, c3⟩ := id_good hq3 a1
            obtain ⟨d1, d2, d3⟩ := id_good hq2 c1
            obtain ⟨e1, e2, e3, e4⟩ := bytes_good hq1 d1
            have hb := len_le (count_fine 1204 (s := (idN (idN (bytesN 4 (bytesN 1 (.good L)).2).2).2).2) hq4)
            have e1' : (((L.length - lenN (countN 1204 (idN (idN (bytesN 4 (bytesN 1 (.good L)).2).2).2).2).2).toNat : Nat) : Int) = L.length - lenN (countN 1204 (idN (idN (bytesN 4 (bytesN 1 (.good L)).2).2).2).2).2 := by omega
            have e2' : (((L.length - lenN (countN 1204 (idN (idN (bytesN 4 (bytesN 1 (.good L)).2).2).2).2).2 + (countN 1204 (idN (idN (bytesN 4 (bytesN 1 (.good L)).2).2).2).2).1).toNat : Nat) : Int) = L.length - lenN (countN 1204 (idN (idN (bytesN 4 (bytesN 1 (.good L)).2).2).2).2).2 + (countN 1204 (idN (idN (bytesN 4 (bytesN 1 (.good L)).2).2).2).2).1 := by omega
            refine .inr ⟨(idN (bytesN 4 (bytesN 1 (.good L)).2).2).1, (idN (idN (bytesN 4 (bytesN 1 (.good L)).2).2).2).1, [], (L.length - lenN (countN 1204 (idN (idN (bytesN 4 (bytesN 1 (.good L)).2).2).2).2).2).toNat, (L.length - lenN (countN 1204 (idN (idN (bytesN 4 (bytesN 1 (.good L)).2).2).2).2).2 + (countN 1204 (idN (idN (bytesN 4 (bytesN 1 (.good L)).2).2).2).2).1).toNat, ⟨by omega, by omega, by omega, d2, c2, Nat.zero_le _⟩, .inr ?_⟩
            rw [e1', e2']
            rfl
      · rename_i he
        exact .inl ⟨_, he, rfl⟩
    · exact .inl ⟨12, by decide, rfl⟩

noncomputable def BH0 : Fns := pick [92, 93] (evFn tt (cut LR tb) BR KT 1000 9) noFns
noncomputable def BH : Fns := softFns (nilFns (liftFns BH0))
theorem BH_sound : Sound Try.prog BH := softFns_sound (nilFns_sound (liftFns_sound (pick_sound (evs_sound_cut BR_sound LR KT 1000 9) (noFns_sound _))))
def LH : List FuncId := [92, 93]
section
variable {K : FuncId → Nat → List Nat} {m d : Nat}
theorem k_short (L : List Nat) (hL : (Rd.good L).fine) (i : Int) (h1 : idsA (shN L i) = []) (H : List Ob) : evFn tt (cut LH tb) BH K m (d + 1) 92 [lsA L, .v (.int .i64 i)] H = some (shN L i, H) := by
  rw [call_known rfl]
  exact up_zero rfl (fun _ => rfl) (by simp [idsL, idsA]) h1 (by show evFn tt (cut LR tb) BR KT 1000 9 92 [lsA L, .v (.int .i64 i)] [] = _; exact h_short L hL i) H
theorem k_long (L : List Nat) (hL : (Rd.good L).fine) (h1 : idsA (loN L) = []) (H : List Ob) : evFn tt (cut LH tb) BH K m (d + 1) 93 [lsA L] H = some (loN L, H) := by
  rw [call_known rfl]
  exact up_zero rfl (fun _ => rfl) (by simp [idsL, idsA]) h1 (by show evFn tt (cut LR tb) BR KT 1000 9 93 [lsA L] [] = _; exact h_long L hL) H
theorem ids_hErr (e : Int) : idsA (hErr e) = [] := by simp [hErr, hz]
theorem ids_hOk (sp : Int) {to fr tok : A} (h1 : idsA to = []) (h2 : idsA fr = []) (h3 : idsA tok = []) (p q : Int) : idsA (hOk sp to fr tok p q) = [] := by simp [hOk, h1, h2, h3]
theorem h_parse (L : List Nat) (hL : (Rd.good L).fine) (i : Int) : evFn tt (cut LH tb) BH K m (d + 2) 46 [lsA L, .v (.int .i64 i)] [] = some (paN L i, []) := by
  rw [call_cut tb46 rfl]
  cases L with
  | nil => simp [Try.f46, paN, hErr, hz]
  | cons x r =>
    have hx : x < 256 := hL.1 x List.mem_cons_self
    have f1 := band (c := 64) hx (by decide)
    have f2 := band (c := 128) hx (by decide)
    have g1 := fun h1 H => k_short (K := K) (m := m) (d := d) (x :: r) hL i h1 H
    have g2 := fun h1 H => k_long (K := K) (m := m) (d := d) (x :: r) hL h1 H
    have hne : ¬ ((r.length : Int) + 1 = 0) := by omega
    rw [lsA_def (x :: r)] at g1 g2 ⊢
    simp only [List.length_cons, List.map_cons, a8] at g1 g2
    simp only [paN]
    obtain ⟨z1, h1⟩ : ∃ z : Int, z = ((x &&& 64 : Nat) : Int) := ⟨_, rfl⟩
    obtain ⟨z2, h2⟩ : ∃ z : Int, z = ((x &&& 128 : Nat) : Int) := ⟨_, rfl⟩
    rw [← h1] at f1
    rw [← h2] at f2
    rw [show ((64 : Nat) : Int) = 64 from rfl] at f1
    rw [show ((128 : Nat) : Int) = 128 from rfl] at f2
    by_cases c0 : x &&& 64 = 0
    · have z0 : z1 = 0 := by omega
      rw [if_pos c0]
      simp [Try.f46, hne, a8, f1, z0, hErr, hz]
    · have z0 : ¬ z1 = 0 := by omega
      rw [if_neg c0]
      by_cases c3 : x &&& 128 = 0
      · have z3 : z2 = 0 := by omega
        rw [if_pos c3]
        rcases sh_shape (L := x :: r) rfl hL i with ⟨e, -, q⟩ | ⟨to, p, q', -, q⟩
        · rw [q] at g1 ⊢
          replace g1 := g1 (ids_hErr e)
          simp [hErr, hz] at g1
          simp [Try.f46, hne, a8, f1, f2, z0, z3, g1, hErr, hz]
        · rw [q] at g1 ⊢
          replace g1 := g1 (ids_hOk _ rfl rfl rfl _ _)
          simp [hOk, nilA] at g1
          simp [Try.f46, hne, a8, f1, f2, z0, z3, g1, hOk, nilA]
      · have z3 : ¬ z2 = 0 := by omega
        rw [if_neg c3]
        rcases lo_shape (L := x :: r) rfl hL with ⟨e, -, q⟩ | ⟨to, fr, tok, p, q', -, q | q⟩
        · rw [q] at g2 ⊢
          replace g2 := g2 (ids_hErr e)
          simp [hErr, hz] at g2
          simp [Try.f46, hne, a8, f1, f2, z0, z3, g2, hErr, hz]
        · rw [q] at g2 ⊢
          replace g2 := g2 (ids_hOk _ rfl rfl rfl _ _)
          simp [hOk, nilA] at g2
          simp [Try.f46, hne, a8, f1, f2, z0, z3, g2, hOk, nilA]
        · rw [q] at g2 ⊢
          replace g2 := g2 (ids_hOk _ rfl rfl rfl _ _)
          simp [hOk, nilA] at g2
          simp [Try.f46, hne, a8, f1, f2, z0, z3, g2, hOk, nilA]
/-- What Parse answers. -/
theorem pa_shape (L : List Nat) (hL : (Rd.good L).fine) (i : Int) : (∃ e, e ≠ 0 ∧ paN L i = hErr e) ∨ ∃ x r to fr tok p q, L = x :: r ∧ x < 256 ∧ HOk L to fr tok p q ∧
    ((x &&& 128 = 0 ∧ paN L i = hOk 2 (lsA to) nilA nilA ((p : Nat) : Int) ((q : Nat) : Int)) ∨ (x &&& 128 ≠ 0 ∧ (paN L i = hOk 0 (lsA to) (lsA fr) (lsA tok) ((p : Nat) : Int) ((q : Nat) : Int) ∨ paN L i = hOk 1 (lsA to) (lsA fr) nilA ((p : Nat) : Int) ((q : Nat) : Int)))) := by
  cases L with
  | nil => exact .inl ⟨3, by decide, rfl⟩
  | cons x r =>
    have hx : x < 256 := hL.1 x List.mem_cons_self
    simp only [paN]
    by_cases c0 : x &&& 64 = 0
    · simp only [if_pos c0]; exact .inl ⟨4, by decide, rfl⟩
    · simp only [if_neg c0]
      by_cases c3 : x &&& 128 = 0
      · simp only [if_pos c3]
        rcases sh_shape (L := x :: r) rfl hL i with h | ⟨to, p, q, h1, h2⟩
        · exact .inl h
        · exact .inr ⟨x, r, to, [], [], p, q, rfl, hx, h1, .inl ⟨c3, h2⟩⟩
      · simp only [if_neg c3]
        rcases lo_shape (L := x :: r) rfl hL with h | ⟨to, fr, tok, p, q, h1, h2⟩
        · exact .inl h
        · exact .inr ⟨x, r, to, fr, tok, p, q, rfl, hx, h1, .inr ⟨c3, h2⟩⟩
end
end Go.Flat
