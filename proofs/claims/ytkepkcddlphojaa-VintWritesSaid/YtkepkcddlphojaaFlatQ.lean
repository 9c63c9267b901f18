/-
  More of the interpreter: a loop gone through up to its last round; a nil slice handed over as one of no elements.
-/
import Derived.Test.YtkepkcddlphojaaFlatP
namespace Go.Flat

/-- A loop gone through up to its N-th head: what comes then is still to be gone through. -/
theorem evLoop_upto {f : St → Option Out} {cl : St → Option St} {s0 : St} (S : Nat → St) (N : Nat) (fuel : Nat)
    (h0 : cl s0 = some (S 0)) (hstep : ∀ i, i < N → loopK cl (f (S i)) = some (S (i + 1))) (hf : N < fuel) :
    evLoop f cl fuel s0 = loopT f cl (fuel - N - 1) (f (S N)) := by
  have key : ∀ k s n, k ≤ N → cl s = some (S (N - k)) → k < n → evLoop f cl n s = loopT f cl (n - k - 1) (f (S N)) := by
    intro k
    induction k with
    | zero =>
      intro s n _ hs hn
      obtain ⟨n, rfl⟩ : ∃ n', n = n' + 1 := ⟨n - 1, by omega⟩
      rw [evLoop_step, hs, loopS_some]
      rfl
    | succ k ih =>
      intro s n hk hs hn
      obtain ⟨n, rfl⟩ : ∃ n', n = n' + 1 := ⟨n - 1, by omega⟩
      have hst := hstep (N - (k + 1)) (by omega)
      rw [evLoop_step, hs, loopS_some]
      unfold loopK at hst
      split at hst
      · rename_i s' hs'
        rw [hs', loopT_normal, ih s' n (by omega) (by rw [hst]; congr 2; omega) (by omega)]
        congr 1
        omega
      · cases hst
  exact key N s0 fuel (Nat.le_refl _) (by rw [Nat.sub_self]; exact h0) hf

/-- A nil slice reads as one of no elements. -/
def nilL : A → A
  | .v (.slice none 0 0) => .lst 0 []
  | x => x
def nilFns (F : Fns) : Fns := fun g args h => F g (args.map nilL) h
theorem nilFns_sound {P : Program} {F : Fns} (hF : Sound P F) : Sound P (nilFns F) := by
  intro g args h r h' he I m w cargs rel hargs
  refine hF g _ h r h' he I m w cargs rel ⟨by rw [List.length_map]; exact hargs.1, fun j x y hx hy => ?_⟩
  rw [List.getElem?_map] at hx
  obtain ⟨x0, h0, rfl⟩ := Option.map_eq_some_iff.1 hx
  have hv := hargs.2 j x0 y h0 hy
  unfold nilL
  split
  · cases hv with
    | flat hf => cases hf; exact .flat .lstN
  · exact hv
/-! small ranges, for the sweeping of what nobody reaches -/
@[simp] theorem rg1 : List.range 1 = [0] := rfl
@[simp] theorem rg2 : List.range 2 = [0, 1] := rfl
@[simp] theorem rg3 : List.range 3 = [0, 1, 2] := rfl
@[simp] theorem rg4 : List.range 4 = [0, 1, 2, 3] := rfl
@[simp] theorem rg5 : List.range 5 = [0, 1, 2, 3, 4] := rfl
@[simp] theorem rg6 : List.range 6 = [0, 1, 2, 3, 4, 5] := rfl
@[simp] theorem rg7 : List.range 7 = [0, 1, 2, 3, 4, 5, 6] := rfl
@[simp] theorem rg8 : List.range 8 = [0, 1, 2, 3, 4, 5, 6, 7] := rfl
@[simp] theorem rg9 : List.range 9 = [0, 1, 2, 3, 4, 5, 6, 7, 8] := rfl
@[simp] theorem rg10 : List.range 10 = [0, 1, 2, 3, 4, 5, 6, 7, 8, 9] := rfl
@[simp] theorem rg11 : List.range 11 = [0, 1, 2, 3, 4, 5, 6, 7, 8, 9, 10] := rfl
@[simp] theorem rg12 : List.range 12 = [0, 1, 2, 3, 4, 5, 6, 7, 8, 9, 10, 11] := rfl
end Go.Flat
