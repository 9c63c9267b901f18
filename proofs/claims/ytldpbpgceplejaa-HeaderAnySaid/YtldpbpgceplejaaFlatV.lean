/-
  Slices that are handed over, and handed back, are written no more.
-/
import Derived.Test.YtldpbpgceplejaaFlatW
namespace Go.Flat
set_option linter.unusedVariables false

def softArg (h : List Ob) (x : A) : A × List Ob := match freezeArg h x with | some p => p | none => (x, h)
def softArgs (h : List Ob) : List A → List A × List Ob
  | [] => ([], h)
  | x :: xs => match softArg h x with | (y, h') => match softArgs h' xs with | (ys, h2) => (y :: ys, h2)
def softRes (h : List Ob) : A → A × List Ob
  | .tup xs => match softArgs h xs with | (ys, h') => (.tup ys, h')
  | x => softArg h x
theorem softArg_sound {I : Imm} {m : List Loc} {h : List Ob} {w : World} (r : Rel I m h w) {x : A} {v : Value} (hx : VRel I m x v) : ∃ I', Step I m h w I' m (softArg h x).2 w ∧ VRel I' m (softArg h x).1 v := by
  unfold softArg
  cases he : freezeArg h x with
  | none => exact ⟨I, Step.refl r, hx⟩
  | some p => obtain ⟨y, h'⟩ := p; exact freezeArg_sound r hx he
theorem softArgs_sound : ∀ {xs : List A} {vs : List Value} {I : Imm} {m : List Loc} {h : List Ob} {w : World}, Rel I m h w → Rels I m xs vs → ∃ I', Step I m h w I' m (softArgs h xs).2 w ∧ Rels I' m (softArgs h xs).1 vs
  | [], vs, I, m, h, w, r, hx => ⟨I, Step.refl r, hx⟩
  | x :: xs, [], I, m, h, w, r, hx => absurd hx.1 (by simp)
  | x :: xs, v :: vs, I, m, h, w, r, hx => by
    obtain ⟨I1, s1, v1⟩ := softArg_sound r (hx.2 0 x v rfl rfl)
    obtain ⟨I2, s2, v2⟩ := softArgs_sound s1.rel (xs := xs) (vs := vs) ⟨by have := hx.1; simpa using this, fun j a b ha hb => (hx.2 (j + 1) a b (by simpa using ha) (by simpa using hb)).mono s1.ile s1.mle⟩
    refine ⟨I2, s1.trans s2, by simp only [softArgs, List.length_cons]; rw [v2.1], fun j a b ha hb => ?_⟩
    cases j with
    | zero => simp [softArgs] at ha hb; subst ha; subst hb; exact v1.mono s2.ile s2.mle
    | succ j => exact v2.2 j a b (by simpa [softArgs] using ha) (by simpa using hb)
theorem softRes_sound {I : Imm} {m : List Loc} {h : List Ob} {w : World} (r : Rel I m h w) {x : A} {v : Value} (hx : VRel I m x v) : ∃ I', Step I m h w I' m (softRes h x).2 w ∧ VRel I' m (softRes h x).1 v := by
  cases x with
  | tup xs =>
    cases hx with
    | flat hh => cases hh
    | tup _ vs hl hv =>
      obtain ⟨I1, st, h1⟩ := softArgs_sound r ⟨hl, hv⟩
      exact ⟨I1, st, .tup _ _ h1.1 h1.2⟩
  | _ => exact softArg_sound r hx
theorem nilL_sound {I : Imm} {m : List Loc} {x : A} {v : Value} (hx : VRel I m x v) : VRel I m (nilL x) v := by
  unfold nilL
  split
  · cases hx with
    | flat hf => cases hf; exact .flat .lstN
  · exact hx

/-- What is handed over is written no more, where it may be. -/
def softFns (F : Fns) : Fns := fun g args h => F g (softArgs h args).1 (softArgs h args).2
/-- What is handed back is written no more, where it may be; a nil slice reads as one of no elements. -/
def outFns (F : Fns) : Fns := fun g args h =>
  match F g args h with
  | some (r, h') => gcK (gc h.length ⟨[(softRes h' (nilL r)).1], (softRes h' (nilL r)).2⟩)
  | none => none

theorem callsV_mono {P : Program} {g : FuncId} {as : Array Value} {w : World} {R R' : Value → World → Prop} (hg : CallsV P g as w R) (h : ∀ y w', R y w' → R' y w') : CallsV P g as w R' := by
  unfold CallsV at hg ⊢
  split at hg
  · exact hg.mono fun e w'' hh => by
      cases e with
      | returned v => exact h v w'' hh
      | _ => exact hh.elim
  · exact h _ _ hg
  · exact hg.elim

theorem softFns_sound {P : Program} {F : Fns} (hF : Sound P F) : Sound P (softFns F) := by
  intro g args h r h' he I m w cargs rel hargs
  obtain ⟨I1, st, hr⟩ := softArgs_sound rel hargs
  exact callsV_mono (hF g _ _ r h' he I1 m w cargs st.rel hr) fun y w' ⟨I', m', s2, hv⟩ => ⟨I', m', st.trans s2, hv⟩

theorem outFns_sound {P : Program} {F : Fns} (hF : Sound P F) : Sound P (outFns F) := by
  intro g args h r h' he I m w cargs rel hargs
  unfold outFns at he
  split at he
  · rename_i r1 h1 h2
    have hk : ∃ r2, gc h.length ⟨[(softRes h1 (nilL r1)).1], (softRes h1 (nilL r1)).2⟩ = some ⟨[r2], h'⟩ ∧ r2 = r := by
      generalize gc h.length ⟨[(softRes h1 (nilL r1)).1], (softRes h1 (nilL r1)).2⟩ = q at he
      rcases q with _ | ⟨t, h3⟩
      · cases he
      · rcases t with _ | ⟨a, _ | ⟨b, l⟩⟩
        · cases he
        · obtain ⟨rfl, rfl⟩ := Prod.mk.inj (Option.some.inj he)
          exact ⟨a, rfl, rfl⟩
        · cases he
    obtain ⟨r2, hgc, rfl⟩ := hk
    refine callsV_mono (hF g args h r1 h1 h2 I m w cargs rel hargs) fun y w' ⟨I', m', s2, hv⟩ => ?_
    obtain ⟨I2, s3, hv2⟩ := softRes_sound s2.rel (nilL_sound hv)
    obtain ⟨m2, s4, tr⟩ := gc_sound (s := ⟨[(softRes h1 (nilL r1)).1], (softRes h1 (nilL r1)).2⟩) (a := ⟨#[y], []⟩) rel (s2.trans s3) ⟨rfl, fun j x hx => by
      cases j with
      | zero => simp at hx; subst hx; exact hv2
      | succ j => simp at hx, rfl⟩ hgc
    exact ⟨I2, m2, s4, tr.rel 0 r2 rfl⟩
  · cases he
/-- Of some functions one thing is known, of others another. -/
def pick (L : List FuncId) (F G : Fns) : Fns := fun g args h => if L.contains g then F g args h else G g args h
theorem pick_sound {P : Program} {L : List FuncId} {F G : Fns} (hF : Sound P F) (hG : Sound P G) : Sound P (pick L F G) := by
  intro g args h r h' he
  unfold pick at he
  split at he
  · exact hF g args h r h' he
  · exact hG g args h r h' he
theorem lift_zero {S : Fns} {g : FuncId} {args : List A} {r : A} (hr : idsL args = []) (h1 : idsA r = []) (hs : S g args [] = some (r, [])) (H : List Ob) : liftFns S g args H = some (r, H) := by
  unfold liftFns
  dsimp only
  rw [hr]
  have e0 : reach H 400 [] [] = [] := rfl
  rw [e0, renL_none _ hr]
  have e1 : nodupB [] = true := rfl
  have e2 : renH [] H [] = some [] := rfl
  rw [e1, e2]
  dsimp only
  rw [hs]
  simp [setAll, un_none _ h1]
/-- A function that is handed no object, and makes none. -/
theorem up_zero {S : Fns} {g : FuncId} {args : List A} {r : A} (hn : args.map nilL = args) (hsoft : ∀ H, softArgs H args = (args, H)) (hr : idsL args = []) (h1 : idsA r = []) (hs : S g args [] = some (r, [])) (H : List Ob) : softFns (nilFns (liftFns S)) g args H = some (r, H) := by
  unfold softFns nilFns
  rw [hsoft, hn]
  exact lift_zero hr h1 hs H
attribute [simp] softArg softArgs softRes nilL freezeArg
end Go.Flat
