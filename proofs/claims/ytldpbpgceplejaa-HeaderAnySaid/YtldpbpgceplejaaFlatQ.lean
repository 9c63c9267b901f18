/-
  More of the interpreter: a loop gone through up to its last round; a nil slice handed over as one of no elements.
-/
import Derived.Test.YtldpbpgceplejaaFlatP
namespace Go.Flat
set_option linter.unusedSimpArgs false
set_option linter.unusedVariables false

/-- A loop gone through up to its N-th head: what comes then is still to be gone through. -/
theorem evLoop_upto {f : St → Option Out} {cl : St → Option St} {s0 : St} (S : Nat → St) (N : Nat) (fuel : Nat)
    (h0 : cl s0 = some (S 0)) (hstep : ∀ i, i < N → loopK cl (f (S i)) = some (S (i + 1))) (hf : N < fuel) :
    evLoop f cl fuel s0 = loopT f cl (fuel - N - 1) (f (S N)) := by
  have key : ∀ k s n, k ≤ N → cl s = some (S (N - k)) → k < n → evLoop f cl n s = loopT f cl (n - k - 1) (f (S N)) := by
    intro k
    induction k with
    | zero =>
      intro s n _ hs hn
      obtain ⟨n, rfl⟩ : ∃ n', n = n' + 1 := ⟨n - 1, by omega⟩
      rw [evLoop_step, hs, loopS_some]
      rfl
    | succ k ih =>
      intro s n hk hs hn
      obtain ⟨n, rfl⟩ : ∃ n', n = n' + 1 := ⟨n - 1, by omega⟩
      have hst := hstep (N - (k + 1)) (by omega)
      rw [evLoop_step, hs, loopS_some]
      unfold loopK at hst
      split at hst
      · rename_i s' hs'
        rw [hs', loopT_normal, ih s' n (by omega) (by rw [hst]; congr 2; omega) (by omega)]
        congr 1
        omega
      · cases hst
  exact key N s0 fuel (Nat.le_refl _) (by rw [Nat.sub_self]; exact h0) hf

/-- A nil slice reads as one of no elements. -/
def nilL : A → A
  | .v (.slice none 0 0) => .lst 0 []
  | x => x
def nilFns (F : Fns) : Fns := fun g args h => F g (args.map nilL) h
theorem nilFns_sound {P : Program} {F : Fns} (hF : Sound P F) : Sound P (nilFns F) := by
  intro g args h r h' he I m w cargs rel hargs
  refine hF g _ h r h' he I m w cargs rel ⟨by rw [List.length_map]; exact hargs.1, fun j x y hx hy => ?_⟩
  rw [List.getElem?_map] at hx
  obtain ⟨x0, h0, rfl⟩ := Option.map_eq_some_iff.1 hx
  have hv := hargs.2 j x0 y h0 hy
  unfold nilL
  split
  · cases hv with
    | flat hf => cases hf; exact .flat .lstN
  · exact hv
/-- What is handed over is written no more: also what is handed over as a part of a struct. -/
def freezeArg (h : List Ob) : A → Option (A × List Ob)
  | .agg xs => match freezeAll h xs with | some (ys, h') => some (.agg ys, h') | none => none
  | x => freeze h x
theorem freezeArg_sound {I : Imm} {m : List Loc} {h h' : List Ob} {w : World} (r : Rel I m h w) {x y : A} {v : Value} (hx : VRel I m x v) (he : freezeArg h x = some (y, h')) :
    ∃ I', Step I m h w I' m h' w ∧ VRel I' m y v := by
  unfold freezeArg at he
  split at he
  · rename_i xs
    split at he
    · rename_i ys h1 hf
      obtain ⟨rfl, rfl⟩ := Prod.mk.inj (Option.some.inj he)
      cases hx with
      | flat hh => cases hh
      | agg _ vs hl hv =>
        obtain ⟨I1, st, h1, h2, _⟩ := freezeAll_sound r ⟨hl, hv⟩ hf
        exact ⟨I1, st, .agg _ _ h1 fun j a b ha hb => .flat (h2 j a b ha hb)⟩
    · cases he
  · obtain ⟨I1, st, hf, _⟩ := freeze_sound r hx he
    exact ⟨I1, st, .flat hf⟩
def freezeArgs (h : List Ob) : List A → Option (List A × List Ob)
  | [] => some ([], h)
  | x :: xs =>
    match freezeArg h x with
    | some (y, h') => match freezeArgs h' xs with | some (ys, h'') => some (y :: ys, h'') | none => none
    | none => none
theorem freezeArgs_sound : ∀ {xs ys : List A} {vs : List Value} {I : Imm} {m : List Loc} {h h' : List Ob} {w : World}, Rel I m h w → Rels I m xs vs → freezeArgs h xs = some (ys, h') →
    ∃ I', Step I m h w I' m h' w ∧ Rels I' m ys vs
  | [], ys, vs, I, m, h, h', w, r, hx, he => by
    obtain ⟨rfl, rfl⟩ := Prod.mk.inj (Option.some.inj he)
    exact ⟨I, Step.refl r, hx⟩
  | x :: xs, ys, vs, I, m, h, h', w, r, hx, he => by
    cases vs with
    | nil => exact absurd hx.1 (by simp)
    | cons v vs =>
      simp only [freezeArgs] at he
      split at he
      · rename_i y h1 h2
        split at he
        · rename_i ys1 h3 h4
          obtain ⟨rfl, rfl⟩ := Prod.mk.inj (Option.some.inj he)
          obtain ⟨I1, s1, v1⟩ := freezeArg_sound r (hx.2 0 x v rfl rfl) h2
          obtain ⟨I2, s2, v2⟩ := freezeArgs_sound s1.rel (vs := vs) ⟨by have := hx.1; simpa using this, fun j a b ha hb => (hx.2 (j + 1) a b (by simpa using ha) (by simpa using hb)).mono s1.ile s1.mle⟩ h4
          refine ⟨I2, s1.trans s2, by simp [v2.1], fun j a b ha hb => ?_⟩
          cases j with
          | zero => simp at ha hb; subst ha; subst hb; exact v1.mono s2.ile s2.mle
          | succ j => exact v2.2 j a b (by simpa using ha) (by simpa using hb)
        · cases he
      · cases he
def frz2Fns (F : Fns) : Fns := fun g args h =>
  match freezeArgs h args with
  | some (args', h') => F g args' h'
  | none => none
theorem frz2Fns_sound {P : Program} {F : Fns} (hF : Sound P F) : Sound P (frz2Fns F) := by
  intro g args h r h' he I m w cargs rel hargs
  unfold frz2Fns at he
  split at he
  · rename_i args' h1 hf
    obtain ⟨I1, st, hr⟩ := freezeArgs_sound rel hargs hf
    have hg := hF g args' h1 r h' he I1 m w cargs st.rel hr
    unfold CallsV at hg ⊢
    split at hg
    · rename_i gg vs w' hc
      refine hg.mono fun e w'' hh => ?_
      cases e with
      | returned v => obtain ⟨I', m', s2, hv⟩ := hh; exact ⟨I', m', st.trans s2, hv⟩
      | _ => exact hh.elim
    · obtain ⟨I', m', s2, hv⟩ := hg
      exact ⟨I', m', st.trans s2, hv⟩
    · exact hg.elim
  · cases he

/-! small ranges, for the sweeping of what nobody reaches -/
@[simp] theorem rg1 : List.range 1 = [0] := rfl
@[simp] theorem rg2 : List.range 2 = [0, 1] := rfl
@[simp] theorem rg3 : List.range 3 = [0, 1, 2] := rfl
@[simp] theorem rg4 : List.range 4 = [0, 1, 2, 3] := rfl
@[simp] theorem rg5 : List.range 5 = [0, 1, 2, 3, 4] := rfl
@[simp] theorem rg6 : List.range 6 = [0, 1, 2, 3, 4, 5] := rfl
@[simp] theorem rg7 : List.range 7 = [0, 1, 2, 3, 4, 5, 6] := rfl
@[simp] theorem rg8 : List.range 8 = [0, 1, 2, 3, 4, 5, 6, 7] := rfl
@[simp] theorem rg9 : List.range 9 = [0, 1, 2, 3, 4, 5, 6, 7, 8] := rfl
@[simp] theorem rg10 : List.range 10 = [0, 1, 2, 3, 4, 5, 6, 7, 8, 9] := rfl
@[simp] theorem rg11 : List.range 11 = [0, 1, 2, 3, 4, 5, 6, 7, 8, 9, 10] := rfl
@[simp] theorem rg12 : List.range 12 = [0, 1, 2, 3, 4, 5, 6, 7, 8, 9, 10, 11] := rfl
end Go.Flat
