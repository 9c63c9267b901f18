/-
  Parse and Numbered in whatever memory. No condition but that bytes are bytes.
-/
import Derived.Test.YtldpbpgceplejaaVNum
namespace Go.Flat
open Go.Proofs
set_option linter.unusedSimpArgs false
set_option linter.unusedVariables false
set_option maxRecDepth 100000
set_option maxHeartbeats 4000000

attribute [simp] Op.operands Call.operands
noncomputable def BA0 : Fns := pick [46] (evFn tt (cut LH tb) BH KT 1000 9) (pick [47] (outFns (evFn tt tb noFns KT 1000 9)) (pick [48, 49] (evFn tt tb noFns KT 1000 9) noFns))
noncomputable def BA : Fns := softFns (nilFns (liftFns BA0))
theorem BA_sound : Sound Try.prog BA := softFns_sound (nilFns_sound (liftFns_sound (pick_sound (evs_sound_cut BH_sound LH KT 1000 9) (pick_sound (outFns_sound (evs_sound (noFns_sound _) KT 1000 9)) (pick_sound (evs_sound (noFns_sound _) KT 1000 9) (noFns_sound _))))))
def LA : List FuncId := [46, 47, 48, 49]
def KA : FuncId → Nat → List Nat
  | 11, 7 => [1, 29, 30, 31]
  | _, _ => []
theorem KA7 : KA 11 7 = [1, 29, 30, 31] := rfl
theorem hdr_awake : evFn tt (cut LA tb) BA KA 1000 9 42 [] [] = some (.v (.bool true), []) := by kernel_rfl

theorem ids_pg (sp : Nat) {to fr tok : A} (h1 : idsA to = []) (h2 : idsA fr = []) (h3 : idsA tok = []) (p q : Int) : idsA (pgA sp to fr tok p q) = [] := by simp [pgA, h1, h2, h3]
theorem ids_num (sp : Nat) {to fr tok : A} (h1 : idsA to = []) (h2 : idsA fr = []) (h3 : idsA tok = []) (f : Nat) (bs : List Nat) : idsA (numN sp to fr tok f bs) = [] := by
  unfold numN
  generalize f &&& (if sp = 2 then 24 else 12) = g
  split
  · simp [h6]
  · split
    · simp [h1, h2, h3]
    · simp [h6]
section
variable {K : FuncId → Nat → List Nat} {m d : Nat}
theorem k_parse (L : List Nat) (hL : (Rd.good L).fine) (i : Int) (h1 : idsA (paN L i) = []) (H : List Ob) : evFn tt (cut LA tb) BA K m (d + 1) 46 [lsA L, .v (.int .i64 i)] H = some (paN L i, H) := by
  rw [call_known rfl]
  exact up_zero rfl (fun _ => rfl) (by simp [idsL, idsA]) h1 (by show evFn tt (cut LH tb) BH KT 1000 9 46 [lsA L, .v (.int .i64 i)] [] = _; exact h_parse L hL i) H
theorem k_parse_row (L : List Nat) (hL : (Rd.good L).fine) (i : Int) (h1 : idsA (paN L i) = []) (a : Ob) (R : List Ob) : evFn tt (cut LA tb) BA K m (d + 1) 46 [.sl 1 0 L.length 1, .v (.int .i64 i)] (a :: .row (L.map a8) :: R) = some (paN L i, a :: .ro (L.map a8) :: R) := by
  have h := k_parse (K := K) (m := m) (d := d) L hL i h1 (a :: .ro (L.map a8) :: R)
  rw [call_known rfl] at h ⊢
  rw [← h]
  have e : List.take L.length (L.map a8) = L.map a8 := List.take_of_length_le (by simp)
  unfold BA softFns
  simp [e]
theorem take_drop_a8 (L : List Nat) (p n : Nat) (h : p + n ≤ L.length) : A.lst n (List.take n (List.drop p (L.map a8))) = lsA ((L.drop p).take n) := by
  have : n ≤ L.length - p := by omega
  simp [lsA, this]
theorem k_num2 (to fr tok : List Nat) (f : Nat) (hf : f < 256) (bs : List Nat) (hb : bs.length ≤ 4000) (p q : Int) (H : List Ob) : evFn tt (cut LA tb) BA K m (d + 1) 47 [pgA 2 (lsA to) nilA nilA p q, .v (.int .u8 f), lsA bs] H = some (numN 2 (lsA to) nilA nilA f bs, H) := by
  rw [call_known rfl]
  exact up_zero rfl (fun _ => rfl) (by simp [idsL, pgA, nilA]) (ids_num 2 rfl rfl rfl f bs) (by show outFns (evFn tt tb noFns KT 1000 9) 47 [pgA 2 (lsA to) nilA nilA p q, .v (.int .u8 f), lsA bs] [] = _; exact n_2 to fr tok f hf bs hb p q) H
theorem k_num2l (to fr tok : List Nat) (f : Nat) (hf : f < 256) (L : List Nat) (hb : L.length ≤ 4000) (p n : Nat) (hpn : p + n ≤ L.length) (u v : Int) (H : List Ob) : evFn tt (cut LA tb) BA K m (d + 1) 47 [pgA 2 (lsA to) nilA nilA u v, .v (.int .u8 f), .lst n (List.take n (List.drop p (L.map a8)))] H = some (numN 2 (lsA to) nilA nilA f ((L.drop p).take n), H) := by
  rw [take_drop_a8 L p n hpn]
  exact k_num2 to fr tok f hf _ (by simp; omega) u v H
theorem k_num2r (to fr tok : List Nat) (f : Nat) (hf : f < 256) (L : List Nat) (hb : L.length ≤ 4000) (p n : Nat) (hpn : p + n ≤ L.length) (u v : Int) (a : Ob) (R : List Ob) : evFn tt (cut LA tb) BA K m (d + 1) 47 [pgA 2 (lsA to) nilA nilA u v, .v (.int .u8 f), .sl 1 p n 1] (a :: .ro (L.map a8) :: R) = some (numN 2 (lsA to) nilA nilA f ((L.drop p).take n), a :: .ro (L.map a8) :: R) := by
  have h := k_num2l (K := K) (m := m) (d := d) to fr tok f hf L hb p n hpn u v (a :: .ro (L.map a8) :: R)
  rw [call_known rfl] at h ⊢
  rw [← h]
  unfold BA softFns
  simp [pgA, nilA, hpn]
theorem k_num0 (to fr tok : List Nat) (f : Nat) (hf : f < 256) (bs : List Nat) (hb : bs.length ≤ 4000) (p q : Int) (H : List Ob) : evFn tt (cut LA tb) BA K m (d + 1) 47 [pgA 0 (lsA to) (lsA fr) (lsA tok) p q, .v (.int .u8 f), lsA bs] H = some (numN 0 (lsA to) (lsA fr) (lsA tok) f bs, H) := by
  rw [call_known rfl]
  exact up_zero rfl (fun _ => rfl) (by simp [idsL, pgA, nilA]) (ids_num 0 rfl rfl rfl f bs) (by show outFns (evFn tt tb noFns KT 1000 9) 47 [pgA 0 (lsA to) (lsA fr) (lsA tok) p q, .v (.int .u8 f), lsA bs] [] = _; exact n_0 to fr tok f hf bs hb p q) H
theorem k_num0l (to fr tok : List Nat) (f : Nat) (hf : f < 256) (L : List Nat) (hb : L.length ≤ 4000) (p n : Nat) (hpn : p + n ≤ L.length) (u v : Int) (H : List Ob) : evFn tt (cut LA tb) BA K m (d + 1) 47 [pgA 0 (lsA to) (lsA fr) (lsA tok) u v, .v (.int .u8 f), .lst n (List.take n (List.drop p (L.map a8)))] H = some (numN 0 (lsA to) (lsA fr) (lsA tok) f ((L.drop p).take n), H) := by
  rw [take_drop_a8 L p n hpn]
  exact k_num0 to fr tok f hf _ (by simp; omega) u v H
theorem k_num0r (to fr tok : List Nat) (f : Nat) (hf : f < 256) (L : List Nat) (hb : L.length ≤ 4000) (p n : Nat) (hpn : p + n ≤ L.length) (u v : Int) (a : Ob) (R : List Ob) : evFn tt (cut LA tb) BA K m (d + 1) 47 [pgA 0 (lsA to) (lsA fr) (lsA tok) u v, .v (.int .u8 f), .sl 1 p n 1] (a :: .ro (L.map a8) :: R) = some (numN 0 (lsA to) (lsA fr) (lsA tok) f ((L.drop p).take n), a :: .ro (L.map a8) :: R) := by
  have h := k_num0l (K := K) (m := m) (d := d) to fr tok f hf L hb p n hpn u v (a :: .ro (L.map a8) :: R)
  rw [call_known rfl] at h ⊢
  rw [← h]
  unfold BA softFns
  simp [pgA, nilA, hpn]
theorem k_num1 (to fr tok : List Nat) (f : Nat) (hf : f < 256) (bs : List Nat) (hb : bs.length ≤ 4000) (p q : Int) (H : List Ob) : evFn tt (cut LA tb) BA K m (d + 1) 47 [pgA 1 (lsA to) (lsA fr) nilA p q, .v (.int .u8 f), lsA bs] H = some (numN 1 (lsA to) (lsA fr) nilA f bs, H) := by
  rw [call_known rfl]
  exact up_zero rfl (fun _ => rfl) (by simp [idsL, pgA, nilA]) (ids_num 1 rfl rfl rfl f bs) (by show outFns (evFn tt tb noFns KT 1000 9) 47 [pgA 1 (lsA to) (lsA fr) nilA p q, .v (.int .u8 f), lsA bs] [] = _; exact n_1 to fr tok f hf bs hb p q) H
theorem k_num1l (to fr tok : List Nat) (f : Nat) (hf : f < 256) (L : List Nat) (hb : L.length ≤ 4000) (p n : Nat) (hpn : p + n ≤ L.length) (u v : Int) (H : List Ob) : evFn tt (cut LA tb) BA K m (d + 1) 47 [pgA 1 (lsA to) (lsA fr) nilA u v, .v (.int .u8 f), .lst n (List.take n (List.drop p (L.map a8)))] H = some (numN 1 (lsA to) (lsA fr) nilA f ((L.drop p).take n), H) := by
  rw [take_drop_a8 L p n hpn]
  exact k_num1 to fr tok f hf _ (by simp; omega) u v H
theorem k_num1r (to fr tok : List Nat) (f : Nat) (hf : f < 256) (L : List Nat) (hb : L.length ≤ 4000) (p n : Nat) (hpn : p + n ≤ L.length) (u v : Int) (a : Ob) (R : List Ob) : evFn tt (cut LA tb) BA K m (d + 1) 47 [pgA 1 (lsA to) (lsA fr) nilA u v, .v (.int .u8 f), .sl 1 p n 1] (a :: .ro (L.map a8) :: R) = some (numN 1 (lsA to) (lsA fr) nilA f ((L.drop p).take n), a :: .ro (L.map a8) :: R) := by
  have h := k_num1l (K := K) (m := m) (d := d) to fr tok f hf L hb p n hpn u v (a :: .ro (L.map a8) :: R)
  rw [call_known rfl] at h ⊢
  rw [← h]
  unfold BA softFns
  simp [pgA, nilA, hpn]
theorem k_same0 (H : List Ob) : evFn tt (cut LA tb) BA K m (d + 1) 48 [.agg h6, .agg h6] H = some (.v (.bool true), H) := by
  rw [call_known rfl]
  exact up_zero rfl (fun _ => rfl) (by simp [idsL, h6]) rfl (by show evFn tt tb noFns KT 1000 9 48 [.agg h6, .agg h6] [] = _; kernel_rfl) H
theorem k_check2 (to fr tok num : List Nat) (t : Bool) (h1 : to.length ≤ 20) (h2 : fr.length ≤ 20) (h3 : tok.length ≤ 64) (h4 : 1 ≤ num.length) (h5 : num.length ≤ 4) (H : List Ob) : evFn tt (cut LA tb) BA K m (d + 1) 49 [.agg [.v (.int .u8 2), (lsA to), nilA, nilA, .v (.bool t), lsA num]] H = some (.v (.int .i64 0), H) := by
  have e : evFn tt tb noFns KT 1000 9 49 [.agg [.v (.int .u8 2), (lsA to), nilA, nilA, .v (.bool t), lsA num]] [] = some (.v (.int .i64 0), []) := by
    have q1 : ¬ (20 : Int) < to.length := by omega
    have q2 : ¬ (20 : Int) < fr.length := by omega
    have q3 : ¬ (64 : Int) < tok.length := by omega
    have q4 : ¬ (num.length : Int) < 1 := by omega
    have q5 : ¬ (4 : Int) < num.length := by omega
    have q1' : ¬ 20 < to.length := by omega
    have q2' : ¬ 20 < fr.length := by omega
    have q3' : ¬ 64 < tok.length := by omega
    have q4' : ¬ num = [] := by intro h; rw [h] at h4; simp at h4
    have q5' : ¬ 4 < num.length := by omega
    rw [call49]
    simp [Try.f49, undef, nilA, q1, q2, q3, q4, q5, q1', q2', q3', q4', q5']
  rw [call_known rfl]
  exact up_zero rfl (fun _ => rfl) (by simp [idsL, nilA]) rfl e H
theorem k_check0 (to fr tok num : List Nat) (t : Bool) (h1 : to.length ≤ 20) (h2 : fr.length ≤ 20) (h3 : tok.length ≤ 64) (h4 : 1 ≤ num.length) (h5 : num.length ≤ 4) (H : List Ob) : evFn tt (cut LA tb) BA K m (d + 1) 49 [.agg [.v (.int .u8 0), (lsA to), (lsA fr), (lsA tok), .v (.bool false), lsA num]] H = some (.v (.int .i64 0), H) := by
  have e : evFn tt tb noFns KT 1000 9 49 [.agg [.v (.int .u8 0), (lsA to), (lsA fr), (lsA tok), .v (.bool false), lsA num]] [] = some (.v (.int .i64 0), []) := by
    have q1 : ¬ (20 : Int) < to.length := by omega
    have q2 : ¬ (20 : Int) < fr.length := by omega
    have q3 : ¬ (64 : Int) < tok.length := by omega
    have q4 : ¬ (num.length : Int) < 1 := by omega
    have q5 : ¬ (4 : Int) < num.length := by omega
    have q1' : ¬ 20 < to.length := by omega
    have q2' : ¬ 20 < fr.length := by omega
    have q3' : ¬ 64 < tok.length := by omega
    have q4' : ¬ num = [] := by intro h; rw [h] at h4; simp at h4
    have q5' : ¬ 4 < num.length := by omega
    rw [call49]
    simp [Try.f49, undef, nilA, q1, q2, q3, q4, q5, q1', q2', q3', q4', q5']
  rw [call_known rfl]
  exact up_zero rfl (fun _ => rfl) (by simp [idsL, nilA]) rfl e H
theorem k_check1 (to fr tok num : List Nat) (t : Bool) (h1 : to.length ≤ 20) (h2 : fr.length ≤ 20) (h3 : tok.length ≤ 64) (h4 : 1 ≤ num.length) (h5 : num.length ≤ 4) (H : List Ob) : evFn tt (cut LA tb) BA K m (d + 1) 49 [.agg [.v (.int .u8 1), (lsA to), (lsA fr), nilA, .v (.bool false), lsA num]] H = some (.v (.int .i64 0), H) := by
  have e : evFn tt tb noFns KT 1000 9 49 [.agg [.v (.int .u8 1), (lsA to), (lsA fr), nilA, .v (.bool false), lsA num]] [] = some (.v (.int .i64 0), []) := by
    have q1 : ¬ (20 : Int) < to.length := by omega
    have q2 : ¬ (20 : Int) < fr.length := by omega
    have q3 : ¬ (64 : Int) < tok.length := by omega
    have q4 : ¬ (num.length : Int) < 1 := by omega
    have q5 : ¬ (4 : Int) < num.length := by omega
    have q1' : ¬ 20 < to.length := by omega
    have q2' : ¬ 20 < fr.length := by omega
    have q3' : ¬ 64 < tok.length := by omega
    have q4' : ¬ num = [] := by intro h; rw [h] at h4; simp at h4
    have q5' : ¬ 4 < num.length := by omega
    rw [call49]
    simp [Try.f49, undef, nilA, q1, q2, q3, q4, q5, q1', q2', q3', q4', q5']
  rw [call_known rfl]
  exact up_zero rfl (fun _ => rfl) (by simp [idsL, nilA]) rfl e H
end
end Go.Flat
