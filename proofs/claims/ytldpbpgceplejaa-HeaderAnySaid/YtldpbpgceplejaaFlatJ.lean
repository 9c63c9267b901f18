/-
  Code, and a function's body: what the interpreter answers is what the model comes to. At a loop's head and at the end what nobody can reach any more is left out, and the objects are numbered anew.
-/
import Derived.Test.YtldpbpgceplejaaFlatI
namespace Go.Flat

/-! ### numbering anew -/
def idx : List Nat → Nat → Option Nat
  | [], _ => none
  | x :: xs, i => if x = i then some 0 else match idx xs i with | some j => some (j + 1) | none => none

theorem idx_get : ∀ {sel : List Nat} {i j : Nat}, idx sel i = some j → sel[j]? = some i
  | [], i, j, h => by simp [idx] at h
  | x :: xs, i, j, h => by
    simp only [idx] at h
    split at h
    · rename_i e
      obtain rfl := Option.some.inj h
      simp [e]
    · split at h
      · rename_i k hk
        obtain rfl := Option.some.inj h
        simpa using idx_get hk
      · cases h

mutual
def renA (sel : List Nat) : A → Option A
  | .v x => some (.v x)
  | .agg xs => match renL sel xs with | some ys => some (.agg ys) | none => none
  | .tup xs => match renL sel xs with | some ys => some (.tup ys) | none => none
  | .ptr i off => match idx sel i with | some j => some (.ptr j off) | none => none
  | .sl i off n sz => match idx sel i with | some j => some (.sl j off n sz) | none => none
  | .lst n cs => some (.lst n cs)
  | .fp cs => some (.fp cs)
  | .fn f xs => match renL sel xs with | some ys => some (.fn f ys) | none => none
  | .mp i => match idx sel i with | some j => some (.mp j) | none => none
  | .any => some .any
def renL (sel : List Nat) : List A → Option (List A)
  | [] => some []
  | x :: xs => match renA sel x with | some y => (match renL sel xs with | some ys => some (y :: ys) | none => none) | none => none
end

def renE (sel : List Nat) : List (A × A) → Option (List (A × A))
  | [] => some []
  | (k, v) :: es => match renA sel k, renA sel v, renE sel es with | some k', some v', some es' => some ((k', v') :: es') | _, _, _ => none

def renOb (sel : List Nat) : Ob → Option Ob
  | .cells xs => match renL sel xs with | some ys => some (.cells ys) | none => none
  | .row xs => some (.row xs)
  | .ro xs => some (.ro xs)
  | .map es => match renE sel es with | some es' => some (.map es') | none => none
  | .dead => some .dead

def renH (sel : List Nat) (h : List Ob) : List Nat → Option (List Ob)
  | [] => some []
  | i :: is => match (h[i]?).bind (renOb sel) with | some o => (match renH sel h is with | some os => some (o :: os) | none => none) | none => none

def reach (h : List Ob) : Nat → List Nat → List Nat → List Nat
  | 0, _, seen => seen
  | _ + 1, [], seen => seen
  | n + 1, i :: todo, seen => if seen.contains i then reach h n todo seen else reach h n ((match h[i]? with | some o => idsOb o | none => []) ++ todo) (seen ++ [i])

def nodupB : List Nat → Bool
  | [] => true
  | x :: xs => !xs.contains x && nodupB xs

/-- What can be reached, numbered anew; the first np objects stay. -/
def gc (np : Nat) (s : St) : Option St :=
  if s.h.length = np then some s else
  let sel := reach s.h 400 (((s.h.take np).flatMap idsOb) ++ idsL s.t) (List.range np)
  if nodupB sel && sel.take np == List.range np then
    match renL sel s.t, renH sel s.h sel with
    | some t, some h => some ⟨t, h⟩
    | _, _ => none
  else none

def keepOnly (keep : List Nat) : Nat → List A → List A
  | _, [] => []
  | j, x :: xs => (if keep.contains j then x else .any) :: keepOnly keep (j + 1) xs

def clean (np : Nat) (keep : List Nat) (s : St) : Option St := gc np ⟨keepOnly keep 0 s.t, s.h⟩

section
variable {P : Program} {I : Imm} {m m' : List Loc} {h : List Ob} {w : World} {sel : List Nat}

mutual
theorem renA_sound (hm : ∀ (i j : Nat) l, idx sel i = some j → m[i]? = some l → m'[j]? = some l) : ∀ {x x' : A} {y : Value}, renA sel x = some x' → VRel I m x y → VRel I m' x' y
  | .v x, x', y, he, hx => by
    obtain rfl := Option.some.inj he
    cases hx with | flat hf => exact .flat hf
  | .lst n cs, x', y, he, hx => by
    obtain rfl := Option.some.inj he
    cases hx with | flat hf => exact .flat hf
  | .fp cs, x', y, he, hx => by
    obtain rfl := Option.some.inj he
    cases hx with | flat hf => exact .flat hf
  | .any, x', y, he, hx => by
    obtain rfl := Option.some.inj he
    exact .any _
  | .ptr i off, x', y, he, hx => by
    simp only [renA] at he
    split at he
    · rename_i j hj
      obtain rfl := Option.some.inj he
      cases hx with
      | flat hf => cases hf
      | ptr _ _ l hl => exact .ptr j off l (hm i j l hj hl)
    · cases he
  | .sl i off n sz, x', y, he, hx => by
    simp only [renA] at he
    split at he
    · rename_i j hj
      obtain rfl := Option.some.inj he
      cases hx with
      | flat hf => cases hf
      | sl _ _ _ _ cap l hl hn hc hext => exact .sl j off n sz cap l (hm i j l hj hl) hn hc hext
      | sl0 _ _ _ a => exact .sl0 _ _ _ a
    · cases he
  | .mp i, x', y, he, hx => by
    simp only [renA] at he
    split at he
    · rename_i j hj
      obtain rfl := Option.some.inj he
      cases hx with
      | flat hf => cases hf
      | mp _ l hl => exact .mp j l (hm i j l hj hl)
    · cases he
  | .agg xs, x', y, he, hx => by
    simp only [renA] at he
    split at he
    · rename_i ys hys
      obtain rfl := Option.some.inj he
      cases hx with
      | flat hf => cases hf
      | agg _ vs hl hh => obtain ⟨h1, h2⟩ := renL_sound hm hys ⟨hl, hh⟩; exact .agg _ _ h1 h2
    · cases he
  | .tup xs, x', y, he, hx => by
    simp only [renA] at he
    split at he
    · rename_i ys hys
      obtain rfl := Option.some.inj he
      cases hx with
      | flat hf => cases hf
      | tup _ vs hl hh => obtain ⟨h1, h2⟩ := renL_sound hm hys ⟨hl, hh⟩; exact .tup _ _ h1 h2
    · cases he
  | .fn f xs, x', y, he, hx => by
    simp only [renA] at he
    split at he
    · rename_i ys hys
      obtain rfl := Option.some.inj he
      cases hx with
      | flat hf => cases hf
      | fn _ hlt _ vs hl hh => obtain ⟨h1, h2⟩ := renL_sound hm hys ⟨hl, hh⟩; exact .fn f hlt _ _ h1 h2
      | bfn _ _ vs hl hh => obtain ⟨h1, h2⟩ := renL_sound hm hys ⟨hl, hh⟩; exact .bfn _ _ _ h1 h2
    · cases he
theorem renL_sound (hm : ∀ (i j : Nat) l, idx sel i = some j → m[i]? = some l → m'[j]? = some l) : ∀ {xs xs' : List A} {ys : List Value}, renL sel xs = some xs' → Rels I m xs ys → Rels I m' xs' ys
  | [], xs', ys, he, hx => by
    obtain rfl := Option.some.inj he
    exact ⟨hx.1, fun j x y hx _ => by simp at hx⟩
  | x :: xs, xs', ys, he, hx => by
    simp only [renL] at he
    split at he
    · rename_i x1 h1
      split at he
      · rename_i xs1 h2
        obtain rfl := Option.some.inj he
        cases ys with
        | nil => cases hx.1
        | cons y ys =>
          have k1 := renA_sound hm h1 (hx.2 0 x y rfl rfl)
          have k2 := renL_sound hm h2 (ys := ys) ⟨by have := hx.1; simpa using this, fun j a b ha hb => hx.2 (j + 1) a b (by simpa using ha) (by simpa using hb)⟩
          refine ⟨by simp [k2.1], fun j a b ha hb => ?_⟩
          cases j with
          | zero => simp at ha hb; subst ha; subst hb; exact k1
          | succ j => exact k2.2 j a b (by simpa using ha) (by simpa using hb)
      · cases he
    · cases he
end

theorem renL_get : ∀ {xs ys : List A} {j : Nat}, renL sel xs = some ys → ys.length = xs.length ∧ ∀ y, ys[j]? = some y → ∃ x, xs[j]? = some x ∧ renA sel x = some y
  | [], ys, j, he => by
    obtain rfl := Option.some.inj he
    exact ⟨rfl, fun y hy => by simp at hy⟩
  | x :: xs, ys, j, he => by
    simp only [renL] at he
    split at he
    · rename_i x1 h1
      split at he
      · rename_i xs1 h2
        obtain rfl := Option.some.inj he
        refine ⟨by simp [(renL_get (j := 0) h2).1], fun y hy => ?_⟩
        cases j with
        | zero => simp at hy; subst hy; exact ⟨x, rfl, h1⟩
        | succ j => obtain ⟨x2, h3, h4⟩ := (renL_get (j := j) h2).2 y (by simpa using hy); exact ⟨x2, by simpa using h3, h4⟩
      · cases he
    · cases he

theorem renE_get : ∀ {xs ys : List (A × A)} {j : Nat}, renE sel xs = some ys → ys.length = xs.length ∧ ∀ y, ys[j]? = some y → ∃ x, xs[j]? = some x ∧ renA sel x.1 = some y.1 ∧ renA sel x.2 = some y.2
  | [], ys, j, he => by
    obtain rfl := Option.some.inj he
    exact ⟨rfl, fun y hy => by simp at hy⟩
  | (k, v) :: xs, ys, j, he => by
    simp only [renE] at he
    split at he
    · rename_i k' v' es' h1 h2 h3
      obtain rfl := Option.some.inj he
      refine ⟨by simp [(renE_get (j := 0) h3).1], fun y hy => ?_⟩
      cases j with
      | zero => simp at hy; subst hy; exact ⟨(k, v), rfl, h1, h2⟩
      | succ j => obtain ⟨x2, h4, h5⟩ := (renE_get (j := j) h3).2 y (by simpa using hy); exact ⟨x2, by simpa using h4, h5⟩
    · cases he

theorem renH_get : ∀ {is : List Nat} {os : List Ob}, renH sel h is = some os → os.length = is.length ∧ ∀ (j : Nat) o, os[j]? = some o → ∃ i x, is[j]? = some i ∧ h[i]? = some x ∧ renOb sel x = some o
  | [], os, he => by
    obtain rfl := Option.some.inj he
    exact ⟨rfl, fun j o hj => by simp at hj⟩
  | i :: is, os, he => by
    simp only [renH] at he
    split at he
    · rename_i o1 h1
      split at he
      · rename_i os1 h2
        obtain rfl := Option.some.inj he
        obtain ⟨k1, k2⟩ := renH_get h2
        refine ⟨by simp [k1], fun j o hj => ?_⟩
        cases j with
        | zero =>
          simp at hj
          subst hj
          cases hx : h[i]? with
          | none => simp [hx] at h1
          | some x => exact ⟨i, x, rfl, hx, by simpa [hx] using h1⟩
        | succ j => obtain ⟨i', x, h3, h4, h5⟩ := k2 j o (by simpa using hj); exact ⟨i', x, by simpa using h3, h4, h5⟩
      · cases he
    · cases he

theorem nodupB_get : ∀ {sel : List Nat}, nodupB sel = true → ∀ (j k i : Nat), sel[j]? = some i → sel[k]? = some i → j = k
  | [], _, j, k, i, hj, _ => by simp at hj
  | x :: xs, hn, j, k, i, hj, hk => by
    simp only [nodupB, Bool.and_eq_true, Bool.not_eq_true'] at hn
    have hx : x ∉ xs := by simpa using hn.1
    cases j with
    | zero =>
      cases k with
      | zero => rfl
      | succ k => simp at hj hk; subst hj; exact absurd (List.mem_of_getElem? hk) hx
    | succ j =>
      cases k with
      | zero => simp at hj hk; subst hk; exact absurd (List.mem_of_getElem? hj) hx
      | succ k => exact congrArg (· + 1) (nodupB_get hn.2 j k i (by simpa using hj) (by simpa using hk))

theorem ObRel.ren (hm : ∀ (i j : Nat) l, idx sel i = some j → m[i]? = some l → m'[j]? = some l) {x x' : Ob} {l : Loc} (hx : ObRel I m w x l) (he : renOb sel x = some x') : ObRel I m' w x' l ∧ ∀ b o, x'.at l b o → x.at l b o := by
  cases x with
  | cells xs =>
    simp only [renOb] at he
    split at he
    · rename_i ys hys
      obtain rfl := Option.some.inj he
      have hl := (renL_get (j := 0) hys).1
      exact ⟨⟨(hx : RowRel _ _ _ _).lt, by rw [hl]; exact (hx : RowRel _ _ _ _).fits, (hx : RowRel _ _ _ _).there, (hx : RowRel _ _ _ _).free, (hx : RowRel _ _ _ _).mark, fun j a y ha hy => by
        obtain ⟨x, h1, h2⟩ := (renL_get (j := j) hys).2 a ha
        exact renA_sound hm h2 ((hx : RowRel _ _ _ _).holds j x y h1 hy)⟩, fun _ _ h => h⟩
    · cases he
  | row xs => obtain rfl := Option.some.inj he; exact ⟨hx, fun _ _ h => h⟩
  | ro xs => obtain rfl := Option.some.inj he; exact ⟨hx, fun _ _ h => h⟩
  | map es =>
    simp only [renOb] at he
    split at he
    · rename_i ys hys
      obtain rfl := Option.some.inj he
      obtain ⟨es', clock, hb, hl, hh⟩ := hx
      refine ⟨⟨es', clock, hb, by rw [(renE_get (j := 0) hys).1]; exact hl, fun j a y ha hy => ?_⟩, fun _ _ h => h⟩
      obtain ⟨x, h1, h2, h3⟩ := (renE_get (j := j) hys).2 a ha
      exact ⟨renA_sound hm h2 (hh j x y h1 hy).1, renA_sound hm h3 (hh j x y h1 hy).2⟩
    · cases he
  | dead => obtain rfl := Option.some.inj he; exact ⟨trivial, fun _ _ h => h⟩

theorem gc_sound {I0 : Imm} {m0 : List Loc} {h0 : List Ob} {w0 : World} (r0 : Rel I0 m0 h0 w0) {s s' : St} {a : Act} (st : Step I0 m0 h0 w0 I m s.h w) (tr : TRel I m s.t a) (he : gc h0.length s = some s') :
    ∃ m', Step I0 m0 h0 w0 I m' s'.h w ∧ TRel I m' s'.t a := by
  unfold gc at he
  split at he
  · obtain rfl := Option.some.inj he
    exact ⟨m, st, tr⟩
  dsimp only at he
  generalize reach s.h 400 (((s.h.take h0.length).flatMap idsOb) ++ idsL s.t) (List.range h0.length) = sel at he
  split at he
  · rename_i hc
    simp only [Bool.and_eq_true, beq_iff_eq] at hc
    split at he
    · rename_i t h1 ht hh
      obtain rfl := Option.some.inj he
      have r := st.rel
      have hm : ∀ (i j : Nat) l, idx sel i = some j → m[i]? = some l → (sel.map fun i => m.getD i ⟨0, 0, 0⟩)[j]? = some l := fun i j l hi hl => by
        rw [List.getElem?_map, idx_get hi]
        simp [List.getD_eq_getElem?_getD, hl]
      obtain ⟨hlen, hget⟩ := renH_get hh
      have own : ∀ j b o, owns (sel.map fun i => m.getD i ⟨0, 0, 0⟩) h1 j b o → ∃ i, sel[j]? = some i ∧ owns m s.h i b o := by
        rintro j b o ⟨x, l, hx, hl, ha⟩
        obtain ⟨i, x0, hi, hx0, hr⟩ := hget j x hx
        obtain ⟨l0, hl0⟩ := loc_of r hx0
        rw [List.getElem?_map, hi] at hl
        simp [List.getD_eq_getElem?_getD, hl0] at hl
        subst hl
        exact ⟨i, hi, x0, l0, hx0, hl0, ((r.ob i x0 l0 hx0 hl0).ren hm hr).2 b o ha⟩
      refine ⟨sel.map fun i => m.getD i ⟨0, 0, 0⟩, ⟨⟨by simp [hlen], r.imm, fun j x l hx hl => ?_, fun j k b o hjk h2 h3 => ?_, fun b o ⟨j, hj⟩ => ?_⟩, fun i l hl => ?_, st.ile, st.fr, fun b o ⟨j, hj⟩ => ?_, st.immn⟩, ?_⟩
      · obtain ⟨i, x0, hi, hx0, hr⟩ := hget j x hx
        obtain ⟨l0, hl0⟩ := loc_of r hx0
        rw [List.getElem?_map, hi] at hl
        simp [List.getD_eq_getElem?_getD, hl0] at hl
        subst hl
        exact ((r.ob i x0 l0 hx0 hl0).ren hm hr).1
      · obtain ⟨i1, e1, o1⟩ := own _ _ _ h2
        obtain ⟨i2, e2, o2⟩ := own _ _ _ h3
        exact r.sep i1 i2 b o (fun e => hjk (nodupB_get hc.1 j k i1 e1 (e ▸ e2))) o1 o2
      · obtain ⟨i, _, oi⟩ := own _ _ _ hj
        exact r.immsep b o ⟨i, oi⟩
      · have hi : i < h0.length := by rw [← r0.len]; exact (List.getElem?_eq_some_iff.1 hl).1
        have hsel : sel[i]? = some i := by
          have := congrArg (·[i]?) hc.2
          rw [List.getElem?_take_of_lt hi, List.getElem?_range hi] at this
          exact this
        rw [List.getElem?_map, hsel]
        simp [List.getD_eq_getElem?_getD, st.mle i l hl]
      · obtain ⟨i, _, oi⟩ := own _ _ _ hj
        exact st.own b o ⟨i, oi⟩
      · refine ⟨by rw [(renL_get (j := 0) ht).1]; exact tr.size, fun j x hx => ?_, tr.defers⟩
        obtain ⟨x0, h2, h3⟩ := (renL_get (j := j) ht).2 x hx
        exact renA_sound hm h3 (tr.rel j x0 h2)
    · cases he
  · cases he

theorem keepOnly_get {keep : List Nat} : ∀ {xs : List A} {k : Nat}, (keepOnly keep k xs).length = xs.length ∧ ∀ (j : Nat) y, (keepOnly keep k xs)[j]? = some y → y = .any ∨ xs[j]? = some y
  | [], k => ⟨rfl, fun j y hy => by simp [keepOnly] at hy⟩
  | x :: xs, k => by
    refine ⟨by simp [keepOnly, (keepOnly_get (xs := xs) (k := k + 1)).1], fun j y hy => ?_⟩
    cases j with
    | zero =>
      simp only [keepOnly, List.getElem?_cons_zero, Option.some.injEq] at hy
      split at hy
      · exact .inr (by simp [hy])
      · exact .inl hy.symm
    | succ j =>
      simp only [keepOnly, List.getElem?_cons_succ] at hy
      rcases (keepOnly_get (xs := xs) (k := k + 1)).2 j y hy with h | h
      · exact .inl h
      · exact .inr (by simpa using h)

theorem clean_sound {I0 : Imm} {m0 : List Loc} {h0 : List Ob} {w0 : World} (r0 : Rel I0 m0 h0 w0) {keep : List Nat} {s s' : St} {a : Act} (st : Step I0 m0 h0 w0 I m s.h w) (tr : TRel I m s.t a) (he : clean h0.length keep s = some s') :
    ∃ m', Step I0 m0 h0 w0 I m' s'.h w ∧ TRel I m' s'.t a := by
  refine gc_sound (s := ⟨keepOnly keep 0 s.t, s.h⟩) r0 st ⟨by rw [(keepOnly_get (k := 0)).1]; exact tr.size, fun j x hx => ?_, tr.defers⟩ he
  rcases (keepOnly_get (k := 0)).2 j x hx with rfl | h
  · exact .any _
  · exact tr.rel j x h

end
end Go.Flat
