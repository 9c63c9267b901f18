/-
  header.Parsed.Numbered over the plain view of memory: what it answers. No condition but that bytes are bytes.
-/
import Derived.Test.YtldpbpgceplejaaVHdr2
namespace Go.Flat
open Go.Proofs
set_option linter.unusedSimpArgs false
set_option linter.unusedVariables false
set_option maxRecDepth 100000
set_option maxHeartbeats 4000000

def h6 : List A := [.v (.int .u8 0), .v (.slice none 0 0), .v (.slice none 0 0), .v (.slice none 0 0), .v (.bool false), .v (.slice none 0 0)]
def numN (sp : Nat) (to fr tok : A) (f : Nat) (bs : List Nat) : A :=
  if bs.length < f % 4 + 1 then .tup [.agg h6, .v (.int .i64 3)]
  else if f &&& (if sp = 2 then 24 else 12) = 0 then .tup [.agg [.v (.int .u8 sp), to, fr, tok, .v (.bool (decide (sp = 2 ∧ f &&& 4 ≠ 0))), lsA (bs.take (f % 4 + 1))], .v (.int .i64 0)]
  else .tup [.agg h6, .v (.int .i64 4)]
theorem out_of {F : Fns} {g : FuncId} {args : List A} {h h' : List Ob} {r : A} (he : F g args h = some (r, h')) : outFns F g args h = gcK (gc h.length ⟨[(softRes h' (nilL r)).1], (softRes h' (nilL r)).2⟩) := by
  unfold outFns
  rw [he]
def pgA (sp : Nat) (to fr tok : A) (p q : Int) : A := .agg [.v (.int .u8 sp), to, fr, tok, .v (.bool false), .v (.slice none 0 0), .v (.int .i64 p), .v (.int .i64 q)]
theorem n_2 (to fr tok : List Nat) (f : Nat) (hf : f < 256) (bs : List Nat) (hb : bs.length ≤ 4000) (p q : Int) : outFns (evFn tt tb noFns KT 1000 9) 47 [pgA 2 (lsA to) nilA nilA p q, .v (.int .u8 f), lsA bs] [] = some (numN 2 (lsA to) nilA nilA f bs, []) := by
  have hc := fun F => call47 noFns KT 1000 8 F []
  have f1 := and3 hf
  have f2 := band (c := 4) hf (by decide)
  have f3 := band (c := 24) hf (by decide)
  have f4 := band (c := 12) hf (by decide)
  rw [show ((4 : Nat) : Int) = 4 from rfl] at f2
  rw [show ((24 : Nat) : Int) = 24 from rfl] at f3
  rw [show ((12 : Nat) : Int) = 12 from rfl] at f4
  obtain ⟨n, hn⟩ : ∃ n, n = f % 4 + 1 := ⟨_, rfl⟩
  have h4 : f % 4 < 4 := Nat.mod_lt _ (by decide)
  have fn : ((f % 4 : Nat) : Int) = (n : Int) - 1 := by omega
  rw [fn] at f1
  have hw0 : IntKind.i64.wrap ((n : Int) - 1) = n - 1 := wrapi64 (by omega) (by omega)
  have hw : IntKind.i64.wrap ((n : Int) - 1 + 1) = n := by rw [wrapi64 (by omega) (by omega)]; omega
  have hw2 : IntKind.i64.wrap (n : Int) = n := wrapi64 (by omega) (by omega)
  obtain ⟨z2, e2⟩ : ∃ z : Int, z = ((f &&& 4 : Nat) : Int) := ⟨_, rfl⟩
  obtain ⟨z3, e3⟩ : ∃ z : Int, z = ((f &&& 24 : Nat) : Int) := ⟨_, rfl⟩
  obtain ⟨z4, e4⟩ : ∃ z : Int, z = ((f &&& 12 : Nat) : Int) := ⟨_, rfl⟩
  rw [← e2] at f2
  rw [← e3] at f3
  rw [← e4] at f4
  obtain ⟨F, eF⟩ : ∃ z : Int, z = (f : Int) := ⟨_, rfl⟩
  rw [← eF] at f1 f2 f3 f4 ⊢
  unfold numN
  rw [← hn]
  by_cases c1 : bs.length < n
  · have c1' : (bs.length : Int) < n := by omega
    rw [if_pos c1]
    rw [out_of (r := .tup [.agg h6, .v (.int .i64 3)]) (h' := []) (by rw [hc]; simp [Try.f47, pgA, nilA, h6, f1, hw0, hw, hw2, c1, c1'])]
    simp [h6]
  · have c1' : ¬ (bs.length : Int) < n := by omega
    have c2' : (n : Int) ≤ bs.length := by omega
    have c2 : n ≤ bs.length := by omega
    have c3 : n ≤ 140737488355328 := by omega
    have hfr : ∀ h, freezeAll h (List.take n (List.map a8 bs)) = some (List.take n (List.map a8 bs), h) := fun h => by rw [← List.map_take]; exact freeze_a8 h _
    rw [if_neg c1]
    simp only [if_true]
    by_cases c4 : f &&& 24 = 0
    · have c5 : z3 = 0 := by omega
      rw [if_pos c4]
      by_cases c6 : f &&& 4 = 0
      · have c7 : z2 = 0 := by omega
        rw [out_of (r := .tup [.agg [.v (.int .u8 2), (lsA to), nilA, nilA, .v (.bool false), .sl 0 0 n 1], .v (.int .i64 0)]) (h' := [.row ((bs.take n).map a8)]) (by rw [hc]; simp [Try.f47, pgA, nilA, h6, f1, f2, f3, f4, hw0, hw, hw2, c1, c1', c2, c2', c3, hfr, c5, List.take_take, c6, c7])]
        simp [nilA, c2, List.take_take, c6]
      · have c7 : ¬ z2 = 0 := by omega
        rw [out_of (r := .tup [.agg [.v (.int .u8 2), (lsA to), nilA, nilA, .v (.bool true), .sl 0 0 n 1], .v (.int .i64 0)]) (h' := [.row ((bs.take n).map a8)]) (by rw [hc]; simp [Try.f47, pgA, nilA, h6, f1, f2, f3, f4, hw0, hw, hw2, c1, c1', c2, c2', c3, hfr, c5, List.take_take, c6, c7])]
        simp [nilA, c2, List.take_take, c6]
    · have c5 : ¬ z3 = 0 := by omega
      rw [if_neg c4]
      by_cases c6 : f &&& 4 = 0
      · have c7 : z2 = 0 := by omega
        rw [out_of (r := .tup [.agg h6, .v (.int .i64 4)]) (h' := []) (by rw [hc]; simp [Try.f47, pgA, nilA, h6, f1, f2, f3, f4, hw0, hw, hw2, c1, c1', c2, c2', c3, hfr, c5, List.take_take, c6, c7])]
        simp [h6]
      · have c7 : ¬ z2 = 0 := by omega
        rw [out_of (r := .tup [.agg h6, .v (.int .i64 4)]) (h' := []) (by rw [hc]; simp [Try.f47, pgA, nilA, h6, f1, f2, f3, f4, hw0, hw, hw2, c1, c1', c2, c2', c3, hfr, c5, List.take_take, c6, c7])]
        simp [h6]
theorem n_0 (to fr tok : List Nat) (f : Nat) (hf : f < 256) (bs : List Nat) (hb : bs.length ≤ 4000) (p q : Int) : outFns (evFn tt tb noFns KT 1000 9) 47 [pgA 0 (lsA to) (lsA fr) (lsA tok) p q, .v (.int .u8 f), lsA bs] [] = some (numN 0 (lsA to) (lsA fr) (lsA tok) f bs, []) := by
  have hc := fun F => call47 noFns KT 1000 8 F []
  have f1 := and3 hf
  have f2 := band (c := 4) hf (by decide)
  have f3 := band (c := 24) hf (by decide)
  have f4 := band (c := 12) hf (by decide)
  rw [show ((4 : Nat) : Int) = 4 from rfl] at f2
  rw [show ((24 : Nat) : Int) = 24 from rfl] at f3
  rw [show ((12 : Nat) : Int) = 12 from rfl] at f4
  obtain ⟨n, hn⟩ : ∃ n, n = f % 4 + 1 := ⟨_, rfl⟩
  have h4 : f % 4 < 4 := Nat.mod_lt _ (by decide)
  have fn : ((f % 4 : Nat) : Int) = (n : Int) - 1 := by omega
  rw [fn] at f1
  have hw0 : IntKind.i64.wrap ((n : Int) - 1) = n - 1 := wrapi64 (by omega) (by omega)
  have hw : IntKind.i64.wrap ((n : Int) - 1 + 1) = n := by rw [wrapi64 (by omega) (by omega)]; omega
  have hw2 : IntKind.i64.wrap (n : Int) = n := wrapi64 (by omega) (by omega)
  obtain ⟨z2, e2⟩ : ∃ z : Int, z = ((f &&& 4 : Nat) : Int) := ⟨_, rfl⟩
  obtain ⟨z3, e3⟩ : ∃ z : Int, z = ((f &&& 24 : Nat) : Int) := ⟨_, rfl⟩
  obtain ⟨z4, e4⟩ : ∃ z : Int, z = ((f &&& 12 : Nat) : Int) := ⟨_, rfl⟩
  rw [← e2] at f2
  rw [← e3] at f3
  rw [← e4] at f4
  obtain ⟨F, eF⟩ : ∃ z : Int, z = (f : Int) := ⟨_, rfl⟩
  rw [← eF] at f1 f2 f3 f4 ⊢
  unfold numN
  rw [← hn]
  by_cases c1 : bs.length < n
  · have c1' : (bs.length : Int) < n := by omega
    rw [if_pos c1]
    rw [out_of (r := .tup [.agg h6, .v (.int .i64 3)]) (h' := []) (by rw [hc]; simp [Try.f47, pgA, nilA, h6, f1, hw0, hw, hw2, c1, c1'])]
    simp [h6]
  · have c1' : ¬ (bs.length : Int) < n := by omega
    have c2' : (n : Int) ≤ bs.length := by omega
    have c2 : n ≤ bs.length := by omega
    have c3 : n ≤ 140737488355328 := by omega
    have hfr : ∀ h, freezeAll h (List.take n (List.map a8 bs)) = some (List.take n (List.map a8 bs), h) := fun h => by rw [← List.map_take]; exact freeze_a8 h _
    rw [if_neg c1]
    simp only [show ¬ (0 = 2) by decide, if_false]
    by_cases c4 : f &&& 12 = 0
    · have c5 : z4 = 0 := by omega
      rw [if_pos c4]
      rw [out_of (r := .tup [.agg [.v (.int .u8 0), (lsA to), (lsA fr), (lsA tok), .v (.bool false), .sl 0 0 n 1], .v (.int .i64 0)]) (h' := [.row ((bs.take n).map a8)]) (by rw [hc]; simp [Try.f47, pgA, nilA, h6, f1, f2, f3, f4, hw0, hw, hw2, c1, c1', c2, c2', c3, hfr, c5, List.take_take])]
      simp [nilA, c2, List.take_take]
    · have c5 : ¬ z4 = 0 := by omega
      rw [if_neg c4]
      rw [out_of (r := .tup [.agg h6, .v (.int .i64 4)]) (h' := []) (by rw [hc]; simp [Try.f47, pgA, nilA, h6, f1, f2, f3, f4, hw0, hw, hw2, c1, c1', c2, c2', c3, hfr, c5, List.take_take])]
      simp [h6]
theorem n_1 (to fr tok : List Nat) (f : Nat) (hf : f < 256) (bs : List Nat) (hb : bs.length ≤ 4000) (p q : Int) : outFns (evFn tt tb noFns KT 1000 9) 47 [pgA 1 (lsA to) (lsA fr) nilA p q, .v (.int .u8 f), lsA bs] [] = some (numN 1 (lsA to) (lsA fr) nilA f bs, []) := by
  have hc := fun F => call47 noFns KT 1000 8 F []
  have f1 := and3 hf
  have f2 := band (c := 4) hf (by decide)
  have f3 := band (c := 24) hf (by decide)
  have f4 := band (c := 12) hf (by decide)
  rw [show ((4 : Nat) : Int) = 4 from rfl] at f2
  rw [show ((24 : Nat) : Int) = 24 from rfl] at f3
  rw [show ((12 : Nat) : Int) = 12 from rfl] at f4
  obtain ⟨n, hn⟩ : ∃ n, n = f % 4 + 1 := ⟨_, rfl⟩
  have h4 : f % 4 < 4 := Nat.mod_lt _ (by decide)
  have fn : ((f % 4 : Nat) : Int) = (n : Int) - 1 := by omega
  rw [fn] at f1
  have hw0 : IntKind.i64.wrap ((n : Int) - 1) = n - 1 := wrapi64 (by omega) (by omega)
  have hw : IntKind.i64.wrap ((n : Int) - 1 + 1) = n := by rw [wrapi64 (by omega) (by omega)]; omega
  have hw2 : IntKind.i64.wrap (n : Int) = n := wrapi64 (by omega) (by omega)
  obtain ⟨z2, e2⟩ : ∃ z : Int, z = ((f &&& 4 : Nat) : Int) := ⟨_, rfl⟩
  obtain ⟨z3, e3⟩ : ∃ z : Int, z = ((f &&& 24 : Nat) : Int) := ⟨_, rfl⟩
  obtain ⟨z4, e4⟩ : ∃ z : Int, z = ((f &&& 12 : Nat) : Int) := ⟨_, rfl⟩
  rw [← e2] at f2
  rw [← e3] at f3
  rw [← e4] at f4
  obtain ⟨F, eF⟩ : ∃ z : Int, z = (f : Int) := ⟨_, rfl⟩
  rw [← eF] at f1 f2 f3 f4 ⊢
  unfold numN
  rw [← hn]
  by_cases c1 : bs.length < n
  · have c1' : (bs.length : Int) < n := by omega
    rw [if_pos c1]
    rw [out_of (r := .tup [.agg h6, .v (.int .i64 3)]) (h' := []) (by rw [hc]; simp [Try.f47, pgA, nilA, h6, f1, hw0, hw, hw2, c1, c1'])]
    simp [h6]
  · have c1' : ¬ (bs.length : Int) < n := by omega
    have c2' : (n : Int) ≤ bs.length := by omega
    have c2 : n ≤ bs.length := by omega
    have c3 : n ≤ 140737488355328 := by omega
    have hfr : ∀ h, freezeAll h (List.take n (List.map a8 bs)) = some (List.take n (List.map a8 bs), h) := fun h => by rw [← List.map_take]; exact freeze_a8 h _
    rw [if_neg c1]
    simp only [show ¬ (1 = 2) by decide, if_false]
    by_cases c4 : f &&& 12 = 0
    · have c5 : z4 = 0 := by omega
      rw [if_pos c4]
      rw [out_of (r := .tup [.agg [.v (.int .u8 1), (lsA to), (lsA fr), nilA, .v (.bool false), .sl 0 0 n 1], .v (.int .i64 0)]) (h' := [.row ((bs.take n).map a8)]) (by rw [hc]; simp [Try.f47, pgA, nilA, h6, f1, f2, f3, f4, hw0, hw, hw2, c1, c1', c2, c2', c3, hfr, c5, List.take_take])]
      simp [nilA, c2, List.take_take]
    · have c5 : ¬ z4 = 0 := by omega
      rw [if_neg c4]
      rw [out_of (r := .tup [.agg h6, .v (.int .i64 4)]) (h' := []) (by rw [hc]; simp [Try.f47, pgA, nilA, h6, f1, f2, f3, f4, hw0, hw, hw2, c1, c1', c2, c2', c3, hfr, c5, List.take_take])]
      simp [h6]
end Go.Flat
