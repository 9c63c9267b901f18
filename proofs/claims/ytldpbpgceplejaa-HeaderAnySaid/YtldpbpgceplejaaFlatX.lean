/-
  What stands beside a step: values and objects that a step does not know of are left as they are.
-/
import Derived.Test.YtldpbpgceplejaaFlatN
namespace Go.Flat
set_option linter.unusedVariables false

theorem idsL_sub : ∀ {xs : List A} {j : Nat} {x : A} {z : Nat}, xs[j]? = some x → z ∈ idsA x → z ∈ idsL xs
  | [], j, x, z, h, hz => by simp at h
  | y :: xs, 0, x, z, h, hz => by simp at h; subst h; rw [idsL]; exact List.mem_append_left _ hz
  | y :: xs, j + 1, x, z, h, hz => by rw [idsL]; exact List.mem_append_right _ (idsL_sub (by simpa using h) hz)

theorem VRel.move {I I' : Imm} {m m' : List Loc} (hI : ILe I I') {x : A} {y : Value} (h : VRel I m x y) (hm : ∀ z ∈ idsA x, ∀ l, m[z]? = some l → m'[z]? = some l) : VRel I' m' x y := by
  induction h with
  | flat h => exact .flat (h.mono hI)
  | agg xs ys hl _ ih => exact .agg xs ys hl fun j x y hx hy => ih j x y hx hy fun z hz => hm z (by rw [idsA]; exact idsL_sub hx hz)
  | tup xs ys hl _ ih => exact .tup xs ys hl fun j x y hx hy => ih j x y hx hy fun z hz => hm z (by rw [idsA]; exact idsL_sub hx hz)
  | fn f hf xs ys hl _ ih => exact .fn f hf xs ys hl fun j x y hx hy => ih j x y hx hy fun z hz => hm z (by rw [idsA]; exact idsL_sub hx hz)
  | bfn f xs ys hl _ ih => exact .bfn f xs ys hl fun j x y hx hy => ih j x y hx hy fun z hz => hm z (by rw [idsA]; exact idsL_sub hx hz)
  | ptr i off l h => exact .ptr i off l (hm i (by simp [idsA]) l h)
  | sl i off n sz cap l h hn hc he => exact .sl i off n sz cap l (hm i (by simp [idsA]) l h) hn hc he
  | sl0 i off sz a => exact .sl0 i off sz a
  | mp i l h => exact .mp i l (hm i (by simp [idsA]) l h)
  | any y => exact .any y

theorem RowRel.keepM {R R' : A → Value → Prop} {own : Nat → Nat → Prop} {w w' : World} {l : Loc} {xs : List A} (h : RowRel R w l xs) (f : Fr own w w') (hn : ∀ o, ¬ own l.blk o) (hR : ∀ (j : Nat) x y, xs[j]? = some x → R x y → R' x y) : RowRel R' w' l xs :=
  ⟨Nat.lt_of_lt_of_le h.lt f.size, h.fits, fun j hj => by rw [f.cell _ _ h.lt (hn _)]; exact h.there j hj, fun j hj => by rw [f.frozen _ _ h.lt (hn _)]; exact h.free j hj,
    fun c e fz hc => h.mark c e fz (by rw [← f.block _ h.lt hn]; exact hc),
    fun j x y hx hy => by
      rw [f.cell _ _ h.lt (hn _)] at hy
      exact hR _ _ _ hx (h.holds j x y hx hy)⟩

theorem ObRel.move {I I' : Imm} {m m' : List Loc} {own : Nat → Nat → Prop} {w w' : World} {x : Ob} {l : Loc} (h : ObRel I m w x l) (hI : ILe I I') (hm : ∀ z ∈ idsOb x, ∀ k, m[z]? = some k → m'[z]? = some k) (f : Fr own w w')
    (hn : ∀ b o, x.at l b o → ¬ own b o) : ObRel I' m' w' x l := by
  cases x with
  | cells xs => exact RowRel.keepM (R' := VRel I' m') h f (fun o => hn _ o rfl) (fun j x y hx hv => hv.move hI fun z hz => hm z (by rw [idsOb]; exact idsL_sub hx hz))
  | row xs => exact RowRel.keep (R' := FRel I') h f (fun o => hn _ o rfl) (fun _ _ hv => hv.mono hI)
  | ro xs => exact ⟨Nat.lt_of_lt_of_le h.1 f.size, fun j x hx => by obtain ⟨z, hz, hf⟩ := h.2 j x hx; exact ⟨z, hI _ _ _ hz, hf.mono hI⟩⟩
  | map es =>
    obtain ⟨es', clock, hb, hl, he⟩ := h
    have hlt : l.blk < w.heap.size := (Array.getElem?_eq_some_iff.1 hb).1
    refine ⟨es', clock, by rw [f.block _ hlt (fun o => hn _ o rfl)]; exact hb, hl, fun j x y hx hy => ⟨(he j x y hx hy).1.move hI fun z hz => hm z ?_, (he j x y hx hy).2.move hI fun z hz => hm z ?_⟩⟩
    · rw [idsOb]; exact List.mem_append_left _ (idsL_sub (xs := es.map (·.1)) (j := j) (by rw [List.getElem?_map, hx]; rfl) hz)
    · rw [idsOb]; exact List.mem_append_right _ (idsL_sub (xs := es.map (·.2)) (j := j) (by rw [List.getElem?_map, hx]; rfl) hz)
  | dead => trivial

/-- A part of the memory by itself. -/
theorem Rel.part {I : Imm} {m : List Loc} {h : List Ob} {w : World} (r : Rel I m h w) (n : Nat) (hids : ∀ (z : Nat) o, z < n → h[z]? = some o → ∀ u ∈ idsOb o, u < n) : Rel I (m.take n) (h.take n) w := by
  have own : ∀ i b o, owns (m.take n) (h.take n) i b o → i < n ∧ owns m h i b o := by
    rintro i b o ⟨x, l, hx, hl, ha⟩
    rw [List.getElem?_take] at hx hl
    split at hx
    · rename_i hi
      rw [if_pos hi] at hl
      exact ⟨hi, x, l, hx, hl, ha⟩
    · cases hx
  refine ⟨by simp [r.len], r.imm, fun i x l hx hl => ?_, fun i j b o hij h1 h2 => r.sep i j b o hij (own _ _ _ h1).2 (own _ _ _ h2).2, fun b o ⟨i, hi⟩ => r.immsep b o ⟨i, (own _ _ _ hi).2⟩⟩
  rw [List.getElem?_take] at hx hl
  split at hx
  · rename_i hi
    rw [if_pos hi] at hl
    refine (r.ob i x l hx hl).move (ILe.refl I) (fun z hz k hk => ?_) (Fr.refl (fun _ _ => False) w) (fun _ _ _ h => h)
    rw [List.getElem?_take, if_pos (hids i x hi hx z hz)]
    exact hk
  · cases hx

/-- A step of a part, the rest beside it. -/
theorem Step.beside {I0 I I' : Imm} {m0 m mA : List Loc} {h0 h hA : List Ob} {w0 w w' : World} (r0 : Rel I0 m0 h0 w0) (st : Step I0 m0 h0 w0 I m h w) {n : Nat} (hn : n ≤ h.length) (stA : Step I (m.take n) (h.take n) w I' mA hA w') (hle : n ≤ hA.length) (hN : hA.length ≤ h.length)
    (hids : ∀ (z : Nat) o, h[z]? = some o → hA.length ≤ z → ∀ u ∈ idsOb o, u < n ∨ hA.length ≤ u) (hn0 : h0.length ≤ n) :
    Step I0 m0 h0 w0 I' (mA ++ m.drop hA.length) (hA ++ h.drop hA.length) w' ∧ MLe mA (mA ++ m.drop hA.length) ∧ (∀ (u : Nat) l, (u < n ∨ hA.length ≤ u) → m[u]? = some l → (mA ++ m.drop hA.length)[u]? = some l) := by
  have r := st.rel
  have lA := stA.rel.len
  have lm := r.len
  have low : ∀ (u : Nat), u < hA.length → (mA ++ m.drop hA.length)[u]? = mA[u]? := fun u hu => List.getElem?_append_left (by omega)
  have high : ∀ (u : Nat), hA.length ≤ u → (mA ++ m.drop hA.length)[u]? = m[u]? := fun u hu => by
    rw [List.getElem?_append_right (by omega), List.getElem?_drop]
    congr 1
    omega
  have hlow : ∀ (u : Nat), u < hA.length → (hA ++ h.drop hA.length)[u]? = hA[u]? := fun u hu => List.getElem?_append_left hu
  have hhigh : ∀ (u : Nat), hA.length ≤ u → (hA ++ h.drop hA.length)[u]? = h[u]? := fun u hu => by
    rw [List.getElem?_append_right hu, List.getElem?_drop]
    congr 1
    omega
  have same : ∀ (u : Nat) l, (u < n ∨ hA.length ≤ u) → m[u]? = some l → (mA ++ m.drop hA.length)[u]? = some l := fun u l hu hl => by
    rcases hu with hu | hu
    · rw [low u (by omega)]
      exact stA.mle u l (by rw [List.getElem?_take, if_pos hu]; exact hl)
    · rw [high u hu]; exact hl
  have part : ∀ i b o, owns (m.take n) (h.take n) i b o → i < n ∧ owns m h i b o := by
    rintro i b o ⟨x, l, hx, hl, ha⟩
    rw [List.getElem?_take] at hx hl
    split at hx
    · rename_i hi
      rw [if_pos hi] at hl
      exact ⟨hi, x, l, hx, hl, ha⟩
    · cases hx
  have ownP : ∀ b o, Owned (m.take n) (h.take n) b o → ∃ i, i < n ∧ owns m h i b o := fun b o ⟨i, hi⟩ => ⟨i, part _ _ _ hi⟩
  have split : ∀ i b o, owns (mA ++ m.drop hA.length) (hA ++ h.drop hA.length) i b o → (i < hA.length ∧ owns mA hA i b o) ∨ (hA.length ≤ i ∧ owns m h i b o) := by
    rintro i b o ⟨x, l, hx, hl, ha⟩
    rcases Nat.lt_or_ge i hA.length with hi | hi
    · rw [hlow i hi] at hx
      rw [low i hi] at hl
      exact .inl ⟨hi, x, l, hx, hl, ha⟩
    · rw [hhigh i hi] at hx
      rw [high i hi] at hl
      exact .inr ⟨hi, x, l, hx, hl, ha⟩
  have cross : ∀ i j b o, hA.length ≤ j → owns mA hA i b o → owns m h j b o → False := fun i j b o hj h1 h2 => by
    rcases stA.own b o ⟨i, h1⟩ with hp | hp
    · obtain ⟨u, hu, ho⟩ := ownP b o hp
      exact r.sep u j b o (by omega) ho h2
    · have := r.owned_lt ⟨j, h2⟩; omega
  refine ⟨⟨⟨by simp [lA, lm], stA.rel.imm, fun i x l hx hl => ?_, fun i j b o hij h1 h2 => ?_, fun b o ⟨i, hi⟩ => ?_⟩, fun u l hu => ?_, st.ile.trans stA.ile, st.fr.trans stA.fr fun b o hp => ?_, fun b o ⟨i, hi⟩ => ?_, fun b o z hz => ?_⟩, MLe.append _ _, same⟩
  · rcases Nat.lt_or_ge i hA.length with hi | hi
    · rw [hlow i hi] at hx
      rw [low i hi] at hl
      exact (stA.rel.ob i x l hx hl).keep (ILe.refl I') (MLe.append _ _) (Fr.refl (fun _ _ => False) w') (fun _ _ _ h => h)
    · rw [hhigh i hi] at hx
      rw [high i hi] at hl
      refine (r.ob i x l hx hl).move stA.ile (fun u hu k hk => same u k (hids i x hx hi u hu) hk) stA.fr (fun b o ha hp => ?_)
      obtain ⟨u, hu, ho⟩ := ownP b o hp
      exact r.sep u i b o (by omega) ho ⟨x, l, hx, hl, ha⟩
  · rcases split _ _ _ h1 with ⟨hi, a1⟩ | ⟨hi, a1⟩ <;> rcases split _ _ _ h2 with ⟨hj, a2⟩ | ⟨hj, a2⟩
    · exact stA.rel.sep i j b o hij a1 a2
    · exact cross _ _ _ _ hj a1 a2
    · exact cross _ _ _ _ hi a2 a1
    · exact r.sep i j b o hij a1 a2
  · rcases split _ _ _ hi with ⟨_, a1⟩ | ⟨hi', a1⟩
    · exact stA.rel.immsep b o ⟨i, a1⟩
    · cases hz : I' b o with
      | none => rfl
      | some z =>
        exfalso
        rcases stA.immn b o z hz with h4 | h4 | h4
        · rw [r.immsep b o ⟨i, a1⟩] at h4; cases h4
        · obtain ⟨u, hu, ho⟩ := ownP b o h4
          exact r.sep u i b o (by omega) ho a1
        · have := r.owned_lt ⟨i, a1⟩; omega
  · refine same u l (.inl ?_) (st.mle u l hu)
    have := (List.getElem?_eq_some_iff.1 hu).1
    rw [r0.len] at this
    omega
  · obtain ⟨u, _, ho⟩ := ownP b o hp
    exact st.own b o ⟨u, ho⟩
  · rcases split _ _ _ hi with ⟨_, a1⟩ | ⟨_, a1⟩
    · rcases stA.own b o ⟨i, a1⟩ with hp | hp
      · obtain ⟨u, _, ho⟩ := ownP b o hp
        exact st.own b o ⟨u, ho⟩
      · exact .inr (Nat.le_trans st.fr.size hp)
    · exact st.own b o ⟨i, a1⟩
  · rcases stA.immn b o z hz with h4 | h4 | h4
    · exact st.immn b o z h4
    · obtain ⟨u, _, ho⟩ := ownP b o h4
      rcases st.own b o ⟨u, ho⟩ with h5 | h5
      · exact .inr (.inl h5)
      · exact .inr (.inr h5)
    · exact .inr (.inr (Nat.le_trans st.fr.size h4))

/-- Places that hold nothing yet. -/
theorem Step.pad {I : Imm} {m : List Loc} {h : List Ob} {w : World} (r : Rel I m h w) (k : Nat) : Step I m h w I (m ++ List.replicate k ⟨0, 0, 0⟩) (h ++ List.replicate k .dead) w.drew := by
  have own : ∀ i b o, owns (m ++ List.replicate k ⟨0, 0, 0⟩) (h ++ List.replicate k .dead) i b o → owns m h i b o := by
    rintro i b o ⟨x, l, hx, hl, ha⟩
    rcases Nat.lt_or_ge i h.length with hi | hi
    · rw [List.getElem?_append_left hi] at hx
      rw [List.getElem?_append_left (by rw [r.len]; exact hi)] at hl
      exact ⟨x, l, hx, hl, ha⟩
    · rw [List.getElem?_append_right hi, List.getElem?_replicate] at hx
      split at hx
      · obtain rfl := Option.some.inj hx; exact ha.elim
      · cases hx
  refine Step.trans (Step.drew r) ?_
  have r := (Step.drew r).rel
  refine ⟨⟨by simp [r.len], r.imm, fun i x l hx hl => ?_, fun i j b o hij h1 h2 => r.sep i j b o hij (own _ _ _ h1) (own _ _ _ h2), fun b o ⟨i, hi⟩ => r.immsep b o ⟨i, own _ _ _ hi⟩⟩, MLe.append _ _, ILe.refl I, Fr.refl _ _, fun b o ⟨i, hi⟩ => .inl ⟨i, own _ _ _ hi⟩, fun _ _ _ h => .inl h⟩
  rcases Nat.lt_or_ge i h.length with hi | hi
  · rw [List.getElem?_append_left hi] at hx
    rw [List.getElem?_append_left (by rw [r.len]; exact hi)] at hl
    exact (r.ob i x l hx hl).keep (ILe.refl I) (MLe.append _ _) (Fr.refl (fun _ _ => False) _) (fun _ _ _ h => h)
  · rw [List.getElem?_append_right hi, List.getElem?_replicate] at hx
    split at hx
    · obtain rfl := Option.some.inj hx; trivial
    · cases hx
end Go.Flat
