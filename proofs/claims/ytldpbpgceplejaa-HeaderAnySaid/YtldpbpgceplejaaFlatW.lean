/-
  What a function does with the objects that it is handed holds in whatever memory it is called: it is gone through over those objects alone.
-/
import Derived.Test.YtldpbpgceplejaaFlatQ
namespace Go.Flat
set_option linter.unusedVariables false

mutual
def unA (f : Nat → Nat) : A → A
  | .agg xs => .agg (unL f xs)
  | .tup xs => .tup (unL f xs)
  | .fn g xs => .fn g (unL f xs)
  | .ptr i off => .ptr (f i) off
  | .sl i off n sz => .sl (f i) off n sz
  | .mp i => .mp (f i)
  | .v x => .v x
  | .lst n cs => .lst n cs
  | .fp cs => .fp cs
  | .any => .any
def unL (f : Nat → Nat) : List A → List A
  | [] => []
  | x :: xs => unA f x :: unL f xs
end
def unOb (f : Nat → Nat) : Ob → Ob
  | .cells xs => .cells (unL f xs)
  | .row xs => .row xs
  | .ro xs => .ro xs
  | .map es => .map (es.map fun e => (unA f e.1, unA f e.2))
  | .dead => .dead
theorem unL_eq (f : Nat → Nat) : ∀ xs : List A, unL f xs = xs.map (unA f)
  | [] => by rw [unL]; rfl
  | x :: xs => by rw [unL, unL_eq f xs]; rfl

def setAll (H : List Ob) : List Nat → List Ob → List Ob
  | i :: is, o :: os => setAll (H.set i o) is os
  | _, _ => H
def backI (sel : List Nat) (N z : Nat) : Nat := if z < sel.length then sel.getD z 0 else N + (z - sel.length)

/-- What is known of functions over the objects that they reach. -/
def liftFns (S : Fns) : Fns := fun g args H =>
  let sel := reach H 400 (idsL args) []
  match nodupB sel, renL sel args, renH sel H sel with
  | true, some args', some h' =>
    match S g args' h' with
    | some (r, h1) => if sel.length ≤ h1.length then some (unA (backI sel H.length) r, setAll H sel ((h1.take sel.length).map (unOb (backI sel H.length))) ++ (h1.drop sel.length).map (unOb (backI sel H.length))) else none
    | none => none
  | _, _, _ => none

section
variable {I : Imm} {m m' : List Loc}

theorem VRel.un {f : Nat → Nat} (hm : ∀ (i : Nat) l, m[i]? = some l → m'[f i]? = some l) {x : A} {y : Value} (h : VRel I m x y) : VRel I m' (unA f x) y := by
  have key : ∀ {xs : List A} {ys : List Value}, (∀ (j : Nat) (x : A) (y : Value), xs[j]? = some x → ys[j]? = some y → VRel I m' (unA f x) y) → ∀ (j : Nat) (x : A) (y : Value), (xs.map (unA f))[j]? = some x → ys[j]? = some y → VRel I m' x y := fun {xs ys} ih j x y hx hy => by
    rw [List.getElem?_map] at hx
    cases hj : xs[j]? with
    | none => rw [hj] at hx; cases hx
    | some z => rw [hj] at hx; obtain rfl := Option.some.inj hx; exact ih j z y hj hy
  induction h with
  | flat h =>
    cases h with
    | v x => rw [unA]; exact .flat (.v _)
    | lst n cap b o cs zs hn hc h1 h2 => rw [unA]; exact .flat (.lst n cap b o cs zs hn hc h1 h2)
    | lst0 a cap hc => rw [unA]; exact .flat (.lst0 a cap hc)
    | lstN => rw [unA]; exact .flat .lstN
    | fp b o cs zs h1 h2 => rw [unA]; exact .flat (.fp b o cs zs h1 h2)
  | agg xs ys hl _ ih => rw [unA, unL_eq]; exact .agg _ _ (by simp [hl]) (key ih)
  | tup xs ys hl _ ih => rw [unA, unL_eq]; exact .tup _ _ (by simp [hl]) (key ih)
  | fn f hf xs ys hl _ ih => rw [unA, unL_eq]; exact .fn f hf _ _ (by simp [hl]) (key ih)
  | bfn f xs ys hl _ ih => rw [unA, unL_eq]; exact .bfn f _ _ (by simp [hl]) (key ih)
  | ptr i off l h => rw [unA]; exact .ptr _ off l (hm i l h)
  | sl i off n sz cap l h hn hc he => rw [unA]; exact .sl _ off n sz cap l (hm i l h) hn hc he
  | sl0 i off sz a => rw [unA]; exact .sl0 _ off sz a
  | mp i l h => rw [unA]; exact .mp _ l (hm i l h)
  | any y => rw [unA]; exact .any y

theorem ObRel.un {f : Nat → Nat} {w : World} {x : Ob} {l : Loc} (hm : ∀ (i : Nat) l, m[i]? = some l → m'[f i]? = some l) (h : ObRel I m w x l) : ObRel I m' w (unOb f x) l := by
  cases x with
  | cells xs =>
    have h' : RowRel (VRel I m) w l xs := h
    show RowRel (VRel I m') w l (unL f xs)
    rw [unL_eq]
    refine ⟨h'.lt, by rw [List.length_map]; exact h'.fits, h'.there, h'.free, h'.mark, fun j z y hz hy => ?_⟩
    rw [List.getElem?_map] at hz
    cases hj : xs[j]? with
    | none => rw [hj] at hz; cases hz
    | some u => rw [hj] at hz; obtain rfl := Option.some.inj hz; exact (h'.holds j u y hj hy).un hm
  | row xs => exact h
  | ro xs => exact h
  | map es =>
    obtain ⟨es', clock, hb, hl, he⟩ := h
    refine ⟨es', clock, hb, by simp [hl], fun j z y hz hy => ?_⟩
    rw [List.getElem?_map] at hz
    cases hj : es[j]? with
    | none => rw [hj] at hz; cases hz
    | some u => rw [hj] at hz; obtain rfl := Option.some.inj hz; exact ⟨(he j u y hj hy).1.un hm, (he j u y hj hy).2.un hm⟩
  | dead => trivial

theorem unOb_at {f : Nat → Nat} {x : Ob} {l : Loc} {b o : Nat} : (unOb f x).at l b o ↔ x.at l b o := by cases x <;> exact Iff.rfl
end

theorem setAll_len : ∀ (is : List Nat) (H os : List Ob), (setAll H is os).length = H.length
  | [], H, os => by cases os <;> rfl
  | i :: is, H, [] => rfl
  | i :: is, H, o :: os => by rw [setAll, setAll_len is]; simp
theorem setAll_out : ∀ (is : List Nat) (H os : List Ob) (z : Nat), z ∉ is → (setAll H is os)[z]? = H[z]?
  | [], H, os, z, h => by cases os <;> rfl
  | i :: is, H, [], z, h => rfl
  | i :: is, H, o :: os, z, h => by
    rw [setAll, setAll_out is _ _ z (fun hz => h (List.mem_cons_of_mem _ hz)), List.getElem?_set_ne (fun e => h (by rw [e]; exact List.mem_cons_self))]
theorem setAll_in : ∀ (is : List Nat) (H os : List Ob) (j i : Nat), nodupB is = true → is[j]? = some i → i < H.length → is.length = os.length → (setAll H is os)[i]? = os[j]?
  | [], H, os, j, i, _, h, _, _ => by simp at h
  | a :: is, H, [], j, i, _, _, _, hl => by simp at hl
  | a :: is, H, o :: os, j, i, hn, h, hi, hl => by
    simp only [nodupB, Bool.and_eq_true, Bool.not_eq_true'] at hn
    rw [setAll]
    cases j with
    | zero =>
      simp at h
      subst h
      rw [setAll_out is _ _ _ (by simpa using hn.1), List.getElem?_set_self hi]
      rfl
    | succ j => rw [setAll_in is _ os j i hn.2 (by simpa using h) (by simpa using hi) (by simpa using hl)]; rfl

theorem liftFns_sound {P : Program} {S : Fns} (hS : Sound P S) : Sound P (liftFns S) := by
  intro g args H r H' he I m w cargs rel hargs
  unfold liftFns at he
  dsimp only at he
  generalize reach H 400 (idsL args) [] = sel at he
  split at he
  · rename_i args' h' hnd hra hrh
    split at he
    · rename_i r1 h1 hs
      split at he
      · rename_i hle
        obtain ⟨rfl, rfl⟩ := Prod.mk.inj (Option.some.inj he)
        obtain ⟨hlen, hget⟩ := renH_get hrh
        have hmH := rel.len
        have hm : ∀ (i j : Nat) l, idx sel i = some j → m[i]? = some l → (sel.map fun i => m.getD i ⟨0, 0, 0⟩)[j]? = some l := fun i j l hi hl => by
          rw [List.getElem?_map, idx_get hi]
          simp [List.getD_eq_getElem?_getD, hl]
        have hin : ∀ (j i : Nat), sel[j]? = some i → i < H.length := fun j i hj => by
          have hjl : j < h'.length := by rw [hlen]; exact (List.getElem?_eq_some_iff.1 hj).1
          obtain ⟨i', x0, hi, hx0, -⟩ := hget j _ (List.getElem?_eq_getElem hjl)
          rw [hj] at hi
          obtain rfl := Option.some.inj hi
          exact (List.getElem?_eq_some_iff.1 hx0).1
        have hmsel : ∀ (j i : Nat) l, sel[j]? = some i → m[i]? = some l → (sel.map fun i => m.getD i ⟨0, 0, 0⟩)[j]? = some l := fun j i l hj hl => by
          rw [List.getElem?_map, hj]
          simp [List.getD_eq_getElem?_getD, hl]
        generalize hms : (sel.map fun i => m.getD i ⟨0, 0, 0⟩) = ms at *
        have hmslen : ms.length = sel.length := by rw [← hms]; simp
        have own : ∀ j b o, owns ms h' j b o → ∃ i, sel[j]? = some i ∧ owns m H i b o := by
          rintro j b o ⟨x, l, hx, hl, ha⟩
          obtain ⟨i, x0, hi, hx0, hr⟩ := hget j x hx
          obtain ⟨l0, hl0⟩ := loc_of rel hx0
          have := hmsel j i l0 hi hl0
          rw [hl] at this
          obtain rfl := Option.some.inj this
          exact ⟨i, hi, x0, _, hx0, hl0, ((rel.ob i x0 _ hx0 hl0).ren hm hr).2 b o ha⟩
        have relS : Rel I ms h' w := by
          refine ⟨by rw [hmslen, hlen], rel.imm, fun j x l hx hl => ?_, fun j k b o hjk h2 h3 => ?_, fun b o ⟨j, hj⟩ => ?_⟩
          · obtain ⟨i, x0, hi, hx0, hr⟩ := hget j x hx
            obtain ⟨l0, hl0⟩ := loc_of rel hx0
            have := hmsel j i l0 hi hl0
            rw [hl] at this
            obtain rfl := Option.some.inj this
            exact ((rel.ob i x0 _ hx0 hl0).ren hm hr).1
          · obtain ⟨i1, e1, o1⟩ := own _ _ _ h2
            obtain ⟨i2, e2, o2⟩ := own _ _ _ h3
            exact rel.sep i1 i2 b o (fun e => hjk (nodupB_get hnd j k i1 e1 (e ▸ e2))) o1 o2
          · obtain ⟨i, _, oi⟩ := own _ _ _ hj
            exact rel.immsep b o ⟨i, oi⟩
        have hg := hS g args' h' r1 h1 hs I ms w cargs relS (renL_sound hm hra hargs)
        have step : ∀ I' m1 w' y, Step I ms h' w I' m1 h1 w' → VRel I' m1 r1 y → ∃ I'' m'', Step I m H w I'' m'' (setAll H sel ((h1.take sel.length).map (unOb (backI sel H.length))) ++ (h1.drop sel.length).map (unOb (backI sel H.length))) w' ∧ VRel I'' m'' (unA (backI sel H.length) r1) y := fun I' m1 w' y st hv => by
          have hl1 := st.rel.len
          have hos : sel.length = ((h1.take sel.length).map (unOb (backI sel H.length))).length := by simp; omega
          have hH'l : ∀ z, z < H.length → (setAll H sel ((h1.take sel.length).map (unOb (backI sel H.length))) ++ (h1.drop sel.length).map (unOb (backI sel H.length)))[z]? = (setAll H sel ((h1.take sel.length).map (unOb (backI sel H.length))))[z]? := fun z hz => List.getElem?_append_left (by rw [setAll_len]; exact hz)
          have bkl : ∀ (z i : Nat), sel[z]? = some i → backI sel H.length z = i := fun z i hz => by
            have := (List.getElem?_eq_some_iff.1 hz).1
            unfold backI
            rw [if_pos this, List.getD_eq_getElem?_getD, hz]
            rfl
          have bkh : ∀ (z : Nat), sel.length ≤ z → backI sel H.length z = H.length + (z - sel.length) := fun z hz => by
            unfold backI
            rw [if_neg (by omega)]
          -- the objects behind it
          have obIn : ∀ (z i : Nat), sel[z]? = some i → (setAll H sel ((h1.take sel.length).map (unOb (backI sel H.length))) ++ (h1.drop sel.length).map (unOb (backI sel H.length)))[i]? = (h1[z]?).map (unOb (backI sel H.length)) := fun z i hz => by
            have hzl := (List.getElem?_eq_some_iff.1 hz).1
            rw [hH'l i (hin z i hz), setAll_in sel H _ z i hnd hz (hin z i hz) hos, List.getElem?_map, List.getElem?_take, if_pos hzl]
          have obOut : ∀ (i : Nat), i < H.length → i ∉ sel → (setAll H sel ((h1.take sel.length).map (unOb (backI sel H.length))) ++ (h1.drop sel.length).map (unOb (backI sel H.length)))[i]? = H[i]? := fun i hi hn => by
            rw [hH'l i hi, setAll_out _ _ _ _ hn]
          have obNew : ∀ (z : Nat), sel.length ≤ z → (setAll H sel ((h1.take sel.length).map (unOb (backI sel H.length))) ++ (h1.drop sel.length).map (unOb (backI sel H.length)))[H.length + (z - sel.length)]? = (h1[z]?).map (unOb (backI sel H.length)) := fun z hz => by
            rw [List.getElem?_append_right (by rw [setAll_len]; omega), setAll_len, List.getElem?_map, List.getElem?_drop]
            congr 2
            omega
          have mlow : ∀ (i : Nat), i < H.length → (m ++ m1.drop sel.length)[i]? = m[i]? := fun i hi => List.getElem?_append_left (by omega)
          have mnew : ∀ (z : Nat), sel.length ≤ z → (m ++ m1.drop sel.length)[H.length + (z - sel.length)]? = m1[z]? := fun z hz => by
            rw [List.getElem?_append_right (by omega), List.getElem?_drop]
            congr 1
            omega
          have m1in : ∀ (z i : Nat), sel[z]? = some i → m1[z]? = m[i]? := fun z i hz => by
            have hi := hin z i hz
            obtain ⟨l, hl⟩ : ∃ l, m[i]? = some l := ⟨_, List.getElem?_eq_getElem (by omega)⟩
            rw [hl]
            exact st.mle z l (hmsel z i l hz hl)
          have back : ∀ (z : Nat) l, m1[z]? = some l → (m ++ m1.drop sel.length)[backI sel H.length z]? = some l := fun z l hl => by
            rcases Nat.lt_or_ge z sel.length with hz | hz
            · have hzs : sel[z]? = some sel[z] := List.getElem?_eq_getElem hz
              rw [bkl z _ hzs, mlow _ (hin z _ hzs), ← m1in z _ hzs]
              exact hl
            · rw [bkh z hz, mnew z hz]; exact hl
          have cases3 : ∀ (i : Nat), (∃ z, sel[z]? = some i) ∨ (i < H.length ∧ i ∉ sel) ∨ (∃ z, sel.length ≤ z ∧ i = H.length + (z - sel.length)) := fun i => by
            by_cases hi : i ∈ sel
            · exact .inl (List.getElem?_of_mem hi)
            · rcases Nat.lt_or_ge i H.length with h | h
              · exact .inr (.inl ⟨h, hi⟩)
              · exact .inr (.inr ⟨sel.length + (i - H.length), by omega, by omega⟩)
          have split : ∀ i b o, owns (m ++ m1.drop sel.length) (setAll H sel ((h1.take sel.length).map (unOb (backI sel H.length))) ++ (h1.drop sel.length).map (unOb (backI sel H.length))) i b o → (∃ z, backI sel H.length z = i ∧ z < h1.length ∧ owns m1 h1 z b o) ∨ (i < H.length ∧ i ∉ sel ∧ owns m H i b o) := by
            rintro i b o ⟨x, l, hx, hl, ha⟩
            rcases cases3 i with ⟨z, hz⟩ | ⟨hi, hn⟩ | ⟨z, hz, rfl⟩
            · rw [obIn z i hz] at hx
              rw [mlow i (hin z i hz), ← m1in z i hz] at hl
              obtain ⟨x0, hx0, rfl⟩ := Option.map_eq_some_iff.1 hx
              exact .inl ⟨z, bkl z i hz, (List.getElem?_eq_some_iff.1 hx0).1, x0, l, hx0, hl, unOb_at.1 ha⟩
            · rw [obOut i hi hn] at hx
              rw [mlow i hi] at hl
              exact .inr ⟨hi, hn, x, l, hx, hl, ha⟩
            · rw [obNew z hz] at hx
              rw [mnew z hz] at hl
              obtain ⟨x0, hx0, rfl⟩ := Option.map_eq_some_iff.1 hx
              exact .inl ⟨z, bkh z hz, (List.getElem?_eq_some_iff.1 hx0).1, x0, l, hx0, hl, unOb_at.1 ha⟩
          have ownS : ∀ b o, Owned ms h' b o → ∃ i, i ∈ sel ∧ owns m H i b o := fun b o ⟨j, hj⟩ => by
            obtain ⟨i, hi, ho⟩ := own j b o hj
            exact ⟨i, List.mem_of_getElem? hi, ho⟩
          have cross : ∀ z i b o, i ∉ sel → owns m1 h1 z b o → owns m H i b o → False := fun z i b o hn h2 h3 => by
            rcases st.own b o ⟨z, h2⟩ with hp | hp
            · obtain ⟨u, hu, ho⟩ := ownS b o hp
              exact rel.sep u i b o (fun e => hn (e ▸ hu)) ho h3
            · have := rel.owned_lt ⟨i, h3⟩; omega
          refine ⟨I', m ++ m1.drop sel.length, ⟨⟨by simp [setAll_len]; omega, st.rel.imm, fun i x l hx hl => ?_, fun i j b o hij h2 h3 => ?_, fun b o ⟨i, hi⟩ => ?_⟩, MLe.append _ _, st.ile, st.fr.mono (fun b o _ hp => by obtain ⟨u, _, ho⟩ := ownS b o hp; exact ⟨u, ho⟩), fun b o ⟨i, hi⟩ => ?_, fun b o z hz => ?_⟩, hv.un back⟩
          · rcases cases3 i with ⟨z, hz⟩ | ⟨hi, hn⟩ | ⟨z, hz, rfl⟩
            · rw [obIn z i hz] at hx
              rw [mlow i (hin z i hz), ← m1in z i hz] at hl
              obtain ⟨x0, hx0, rfl⟩ := Option.map_eq_some_iff.1 hx
              exact (st.rel.ob z x0 l hx0 hl).un back
            · rw [obOut i hi hn] at hx
              rw [mlow i hi] at hl
              refine (rel.ob i x l hx hl).keep st.ile (MLe.append _ _) st.fr (fun b o ha hp => ?_)
              obtain ⟨u, hu, ho⟩ := ownS b o hp
              exact rel.sep u i b o (fun e => hn (e ▸ hu)) ho ⟨x, l, hx, hl, ha⟩
            · rw [obNew z hz] at hx
              rw [mnew z hz] at hl
              obtain ⟨x0, hx0, rfl⟩ := Option.map_eq_some_iff.1 hx
              exact (st.rel.ob z x0 l hx0 hl).un back
          · rcases split _ _ _ h2 with ⟨z1, e1, _, a1⟩ | ⟨hi, n1, a1⟩ <;> rcases split _ _ _ h3 with ⟨z2, e2, _, a2⟩ | ⟨hj, n2, a2⟩
            · exact st.rel.sep z1 z2 b o (fun e => hij (by rw [← e1, ← e2, e])) a1 a2
            · exact cross _ _ _ _ n2 a1 a2
            · exact cross _ _ _ _ n1 a2 a1
            · exact rel.sep i j b o hij a1 a2
          · rcases split _ _ _ hi with ⟨z1, e1, _, a1⟩ | ⟨hi', n1, a1⟩
            · exact st.rel.immsep b o ⟨z1, a1⟩
            · cases hz : I' b o with
              | none => rfl
              | some z =>
                exfalso
                rcases st.immn b o z hz with h4 | h4 | h4
                · rw [rel.immsep b o ⟨i, a1⟩] at h4; cases h4
                · obtain ⟨u, hu, ho⟩ := ownS b o h4
                  exact rel.sep u i b o (fun e => n1 (e ▸ hu)) ho a1
                · have := rel.owned_lt ⟨i, a1⟩; omega
          · rcases split _ _ _ hi with ⟨z1, e1, _, a1⟩ | ⟨hi', n1, a1⟩
            · rcases st.own b o ⟨z1, a1⟩ with hp | hp
              · obtain ⟨u, _, ho⟩ := ownS b o hp
                exact .inl ⟨u, ho⟩
              · exact .inr hp
            · exact .inl ⟨i, a1⟩
          · rcases st.immn b o z hz with h4 | h4 | h4
            · exact .inl h4
            · obtain ⟨u, _, ho⟩ := ownS b o h4
              exact .inr (.inl ⟨u, ho⟩)
            · exact .inr (.inr h4)
        unfold CallsV at hg ⊢
        split at hg
        · rename_i gg as w' he
          refine hg.mono fun e w'' hh => ?_
          cases e with
          | returned v => obtain ⟨I', m', st, hv⟩ := hh; exact step I' m' w'' v st hv
          | _ => exact hh.elim
        · obtain ⟨I', m', st, hv⟩ := hg
          exact step I' m' _ _ st hv
        · exact hg.elim
      · cases he
    · cases he
  · cases he
mutual
theorem ren_none (sel : List Nat) : ∀ {x : A}, idsA x = [] → renA sel x = some x
  | .v x, _ => rfl
  | .lst n cs, _ => rfl
  | .fp cs, _ => rfl
  | .any, _ => rfl
  | .ptr i off, h => by simp [idsA] at h
  | .sl i off n sz, h => by simp [idsA] at h
  | .mp i, h => by simp [idsA] at h
  | .agg xs, h => by rw [idsA] at h; rw [renA, renL_none sel h]
  | .tup xs, h => by rw [idsA] at h; rw [renA, renL_none sel h]
  | .fn f xs, h => by rw [idsA] at h; rw [renA, renL_none sel h]
theorem renL_none (sel : List Nat) : ∀ {xs : List A}, idsL xs = [] → renL sel xs = some xs
  | [], _ => rfl
  | x :: xs, h => by
    rw [idsL, List.append_eq_nil_iff] at h
    rw [renL, ren_none sel h.1, renL_none sel h.2]
end
mutual
theorem un_none (f : Nat → Nat) : ∀ {x : A}, idsA x = [] → unA f x = x
  | .v x, _ => rfl
  | .lst n cs, _ => rfl
  | .fp cs, _ => rfl
  | .any, _ => rfl
  | .ptr i off, h => by simp [idsA] at h
  | .sl i off n sz, h => by simp [idsA] at h
  | .mp i, h => by simp [idsA] at h
  | .agg xs, h => by rw [idsA] at h; rw [unA, unL_none f h]
  | .tup xs, h => by rw [idsA] at h; rw [unA, unL_none f h]
  | .fn g xs, h => by rw [idsA] at h; rw [unA, unL_none f h]
theorem unL_none (f : Nat → Nat) : ∀ {xs : List A}, idsL xs = [] → unL f xs = xs
  | [], _ => rfl
  | x :: xs, h => by
    rw [idsL, List.append_eq_nil_iff] at h
    rw [unL, un_none f h.1, unL_none f h.2]
end
theorem cells_none {sel : List Nat} {f : Nat → Nat} {xs : List A} (h : idsOb (.cells xs) = []) : renOb sel (.cells xs) = some (.cells xs) ∧ unOb f (.cells xs) = .cells xs := by
  rw [idsOb] at h
  exact ⟨by rw [renOb, renL_none sel h], by rw [unOb, unL_none f h]⟩
/-- What is known of a function that is handed one variable. -/
theorem lift_one {S : Fns} {g : FuncId} {rest : List A} {xs ys : List A} {r : A} (ho : idsOb (.cells xs) = []) (hr : idsL rest = []) (h1 : idsA r = []) (h2 : idsOb (.cells ys) = []) (hs : S g (.ptr 0 0 :: rest) [.cells xs] = some (r, [.cells ys])) (pre R : List Ob) :
    liftFns S g (.ptr pre.length 0 :: rest) (pre ++ .cells xs :: R) = some (r, pre ++ .cells ys :: R) := by
  have hget : (pre ++ .cells xs :: R)[pre.length]? = some (.cells xs) := by rw [List.getElem?_append_right (Nat.le_refl _), Nat.sub_self]; rfl
  have hsel : reach (pre ++ .cells xs :: R) 400 (idsL (.ptr pre.length 0 :: rest)) [] = [pre.length] := by
    rw [idsL, hr, idsA]
    simp only [List.append_nil, reach, List.contains_nil, Bool.false_eq_true, if_false, hget, ho, List.nil_append]
  unfold liftFns
  dsimp only
  rw [hsel]
  have e1 : renL [pre.length] (.ptr pre.length 0 :: rest) = some (.ptr 0 0 :: rest) := by
    rw [renL, renL_none _ hr]
    simp [renA, idx]
  have e2 : renH [pre.length] (pre ++ .cells xs :: R) [pre.length] = some [.cells xs] := by
    simp only [renH, hget, Option.bind_some, (cells_none (sel := [pre.length]) (f := id) ho).1]
  rw [e1, e2]
  have e3 : nodupB [pre.length] = true := rfl
  rw [e3]
  dsimp only
  rw [hs]
  simp only [List.length_cons, List.length_nil, Nat.le_refl, if_true, List.take_succ_cons, List.take_zero, List.map_cons, List.map_nil, List.drop_succ_cons, List.drop_zero, List.append_nil, un_none _ h1, (cells_none (sel := [pre.length]) (f := backI [pre.length] (pre ++ Ob.cells xs :: R).length) h2).2, setAll]
  simp
attribute [simp] unA unL unOb setAll backI liftFns
end Go.Flat
