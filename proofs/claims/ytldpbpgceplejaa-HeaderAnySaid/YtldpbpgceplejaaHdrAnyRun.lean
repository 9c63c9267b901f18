/-
  The run of the law HeaderAny over the plain view of memory: it answers true. No condition.
-/
import Derived.Test.YtldpbpgceplejaaHdrAnyC
import Derived.Test.YtldpbpgceplejaaVCame
namespace Go.Flat
open Go.Proofs
set_option linter.unusedSimpArgs false
set_option linter.unusedVariables false
set_option maxRecDepth 100000
set_option maxHeartbeats 80000000

theorem hdrAny_run (b : List Nat) (id : Int) (first : Nat) (hb : ∀ n ∈ b, n < 256) (hf : first < 256) :
    evFn tt (cut LA tb) BA KA 1000 10 11 [lsA b, .v (.int .i64 id), .v (.int .u8 first)] [] = some (.v (.bool true), []) := by
  rw [call_loose tb11 tbL11 rfl, ev_bodyT _ _ _ _ (by simp [Try.f11])]
  by_cases g1 : (200 : Int) < b.length
  · simp [Try.f11, hdr_awake, g1]
  have f1 := band (c := 47) hf (by decide)
  have hl : first &&& 47 < 256 := Nat.lt_of_le_of_lt Nat.and_le_right (by decide)
  have f2 := bor (c := 192) hl (by decide)
  have hl2 : 192 ||| (first &&& 47) < 256 := Nat.or_lt_two_pow (n := 8) (by decide) hl
  generalize 192 ||| (first &&& 47) = c at *
  rw [show ((47 : Nat) : Int) = 47 from rfl] at f1
  rw [show ((192 : Nat) : Int) = 192 from rfl] at f2
  generalize ((first &&& 47 : Nat) : Int) = z at *
  obtain ⟨F, eF⟩ : ∃ z : Int, z = (first : Int) := ⟨_, rfl⟩
  rw [← eF] at f1 ⊢
  obtain ⟨C, eC⟩ : ∃ z : Int, z = (c : Int) := ⟨_, rfl⟩
  rw [← eC] at f2
  have hfr : ∀ h, freezeAll h (List.map a8 b) = some (List.map a8 b, h) := fun h => freeze_a8 h b
  have hm : b.length + 5 ≤ 140737488355328 := by omega
  have hm1 : 5 + b.length ≤ 140737488355328 := by omega
  simp [-clean, Try.f11, hdr_awake, g1, f1, f2, hfr, hm, hm1, KA7]
  obtain ⟨L, hL⟩ : ∃ L, L = c :: 0 :: 0 :: 0 :: 1 :: b := ⟨_, rfl⟩
  have hbf : (Rd.good b).fine := ⟨hb, by omega⟩
  have hLf : (Rd.good L).fine := by
    subst hL
    refine ⟨fun n hn => ?_, by simp; omega⟩
    simp only [List.mem_cons] at hn
    rcases hn with rfl | rfl | rfl | rfl | rfl | hn
    · exact hl2
    · decide
    · decide
    · decide
    · decide
    · exact hb n hn
  have hlen : L.length = 5 + b.length := by subst hL; simp; omega
  have hmap : L.map a8 = .v (.int .u8 C) :: .v (.int .u8 0) :: .v (.int .u8 0) :: .v (.int .u8 0) :: .v (.int .u8 1) :: b.map a8 := by subst hL; rw [eC]; rfl
  rw [evLoop_upto (fun i => ⟨plc 199 .any [(1, .v (.int .i64 id)), (29, .sl 0 0 2 1), (30, .v (.int .i64 2)), (31, .v (.int .i64 i))], [.cells [lsA b, .sl 1 0 L.length 1], if i < 2 then .row (L.map a8) else .ro (L.map a8)]⟩) 2 1000 ?_ ?_ (by omega)]
  · simp
  · simp [-clean, hlen, hmap]
  · intro i hi
    match i, hi with
    | 0, _ => exact hdrAny_round0 _ rfl b L id hbf hLf
    | 1, _ => exact hdrAny_round1 _ rfl b L id hbf hLf
theorem hdrAny_out {xs : List Int} {i f : Int} (hx : ∀ n ∈ xs, (Lit.int .u8 n).wf = true) (hf : (Lit.int .u8 f).wf = true) :
    evFn tt (cut LA tb) BA KA 1000 10 11 [.lst xs.length (xs.map (intA .u8)), intA .i64 i, intA .u8 f] [] = some (.v (.bool true), []) := by
  obtain ⟨b, h1, h2, h3⟩ := bytes_nat hx
  obtain ⟨n, rfl, hn⟩ := u8_nat hf
  rw [h1, h2]
  exact hdrAny_run b i n h3 hn
end Go.Flat
