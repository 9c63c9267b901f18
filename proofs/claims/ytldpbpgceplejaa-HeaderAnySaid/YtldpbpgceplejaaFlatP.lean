/-
  What a function does that is handed no object holds in whatever memory it is called: what it makes lies behind what there is.
-/
import Derived.Test.YtldpbpgceplejaaFlatO
namespace Go.Flat

mutual
def mapA (k : Nat) : A → A
  | .agg xs => .agg (mapL k xs)
  | .tup xs => .tup (mapL k xs)
  | .fn f xs => .fn f (mapL k xs)
  | .ptr i off => .ptr (k + i) off
  | .sl i off n sz => .sl (k + i) off n sz
  | .mp i => .mp (k + i)
  | .v x => .v x
  | .lst n cs => .lst n cs
  | .fp cs => .fp cs
  | .any => .any
def mapL (k : Nat) : List A → List A
  | [] => []
  | x :: xs => mapA k x :: mapL k xs
end

def mapOb (k : Nat) : Ob → Ob
  | .cells xs => .cells (mapL k xs)
  | .row xs => .row xs
  | .ro xs => .ro xs
  | .map es => .map (es.map fun e => (mapA k e.1, mapA k e.2))
  | .dead => .dead

theorem mapL_eq (k : Nat) : ∀ xs : List A, mapL k xs = xs.map (mapA k)
  | [] => by rw [mapL]; rfl
  | x :: xs => by rw [mapL, mapL_eq k xs]; rfl

section
variable {I : Imm} {m m' : List Loc}

theorem VRel.app {k : Nat} (hm : ∀ (i : Nat) l, m[i]? = some l → m'[k + i]? = some l) {x : A} {y : Value} (h : VRel I m x y) : VRel I m' (mapA k x) y := by
  induction h with
  | flat h =>
    cases h with
    | v x => rw [mapA]; exact .flat (.v _)
    | lst n cap b o cs zs hn hc h1 h2 => rw [mapA]; exact .flat (.lst n cap b o cs zs hn hc h1 h2)
    | lst0 a cap hc => rw [mapA]; exact .flat (.lst0 a cap hc)
    | lstN => rw [mapA]; exact .flat .lstN
    | fp b o cs zs h1 h2 => rw [mapA]; exact .flat (.fp b o cs zs h1 h2)
  | agg xs ys hl _ ih =>
    rw [mapA, mapL_eq]
    refine .agg _ _ (by simp [hl]) fun j x y hx hy => ?_
    rw [List.getElem?_map] at hx
    cases hj : xs[j]? with
    | none => rw [hj] at hx; cases hx
    | some z => rw [hj] at hx; obtain rfl := Option.some.inj hx; exact ih j z y hj hy
  | tup xs ys hl _ ih =>
    rw [mapA, mapL_eq]
    refine .tup _ _ (by simp [hl]) fun j x y hx hy => ?_
    rw [List.getElem?_map] at hx
    cases hj : xs[j]? with
    | none => rw [hj] at hx; cases hx
    | some z => rw [hj] at hx; obtain rfl := Option.some.inj hx; exact ih j z y hj hy
  | fn f hf xs ys hl _ ih =>
    rw [mapA, mapL_eq]
    refine .fn f hf _ _ (by simp [hl]) fun j x y hx hy => ?_
    rw [List.getElem?_map] at hx
    cases hj : xs[j]? with
    | none => rw [hj] at hx; cases hx
    | some z => rw [hj] at hx; obtain rfl := Option.some.inj hx; exact ih j z y hj hy
  | bfn f xs ys hl _ ih =>
    rw [mapA, mapL_eq]
    refine .bfn f _ _ (by simp [hl]) fun j x y hx hy => ?_
    rw [List.getElem?_map] at hx
    cases hj : xs[j]? with
    | none => rw [hj] at hx; cases hx
    | some z => rw [hj] at hx; obtain rfl := Option.some.inj hx; exact ih j z y hj hy
  | ptr i off l h => rw [mapA]; exact .ptr _ off l (hm i l h)
  | sl i off n sz cap l h hn hc he => rw [mapA]; exact .sl _ off n sz cap l (hm i l h) hn hc he
  | sl0 i off sz a => rw [mapA]; exact .sl0 _ off sz a
  | mp i l h => rw [mapA]; exact .mp _ l (hm i l h)
  | any y => rw [mapA]; exact .any y

theorem idsL_mem : ∀ {xs : List A} {j : Nat} {x : A}, idsL xs = [] → xs[j]? = some x → idsA x = []
  | x :: xs, j, z, h, hj => by
    rw [idsL, List.append_eq_nil_iff] at h
    cases j with
    | zero => simp at hj; subst hj; exact h.1
    | succ j => exact idsL_mem h.2 (by simpa using hj)

theorem VRel.norefs {x : A} {y : Value} (h : VRel I m x y) (hn : idsA x = []) : VRel I m' x y := by
  induction h with
  | flat h => exact .flat h
  | agg xs ys hl _ ih => rw [idsA] at hn; exact .agg xs ys hl fun j x y hx hy => ih j x y hx hy (idsL_mem hn hx)
  | tup xs ys hl _ ih => rw [idsA] at hn; exact .tup xs ys hl fun j x y hx hy => ih j x y hx hy (idsL_mem hn hx)
  | fn f hf xs ys hl _ ih => rw [idsA] at hn; exact .fn f hf xs ys hl fun j x y hx hy => ih j x y hx hy (idsL_mem hn hx)
  | bfn f xs ys hl _ ih => rw [idsA] at hn; exact .bfn f xs ys hl fun j x y hx hy => ih j x y hx hy (idsL_mem hn hx)
  | ptr i off l h => rw [idsA] at hn; cases hn
  | sl i off n sz cap l h _ _ _ => rw [idsA] at hn; cases hn
  | sl0 i off sz a => rw [idsA] at hn; cases hn
  | mp i l h => rw [idsA] at hn; cases hn
  | any y => exact .any y

theorem ObRel.app {k : Nat} {w : World} {x : Ob} {l : Loc} (hm : ∀ (i : Nat) l, m[i]? = some l → m'[k + i]? = some l) (h : ObRel I m w x l) : ObRel I m' w (mapOb k x) l := by
  cases x with
  | cells xs =>
    have h' : RowRel (VRel I m) w l xs := h
    have e : mapL k xs = xs.map (mapA k) := mapL_eq k xs
    show RowRel (VRel I m') w l (mapL k xs)
    rw [e]
    refine ⟨h'.lt, by rw [List.length_map]; exact h'.fits, h'.there, h'.free, h'.mark, fun j z y hz hy => ?_⟩
    rw [List.getElem?_map] at hz
    cases hj : xs[j]? with
    | none => rw [hj] at hz; cases hz
    | some u => rw [hj] at hz; obtain rfl := Option.some.inj hz; exact (h'.holds j u y hj hy).app hm
  | row xs => exact h
  | ro xs => exact h
  | map es =>
    obtain ⟨es', clock, hb, hl, he⟩ := h
    refine ⟨es', clock, hb, by simp [hl], fun j z y hz hy => ?_⟩
    rw [List.getElem?_map] at hz
    cases hj : es[j]? with
    | none => rw [hj] at hz; cases hz
    | some u => rw [hj] at hz; obtain rfl := Option.some.inj hz; exact ⟨(he j u y hj hy).1.app hm, (he j u y hj hy).2.app hm⟩
  | dead => trivial

theorem mapOb_at {k : Nat} {x : Ob} {l : Loc} {b o : Nat} : (mapOb k x).at l b o ↔ x.at l b o := by cases x <;> exact Iff.rfl

end

section
variable {P : Program}

theorem Good.app {f : FuncId} {args : List A} {r : A} {h1 : List Ob} (g : Good P f args [] r h1) (ha : idsL args = []) (h : List Ob) : Good P f args h (mapA h.length r) (h ++ h1.map (mapOb h.length)) := by
  intro I m w cargs rel hargs
  have rel0 : Rel I [] [] w := ⟨rfl, rel.imm, fun i x l hx _ => by simp at hx, fun i j b o _ ⟨x, l, hx, _⟩ => by simp at hx, fun b o ⟨i, x, l, hx, _⟩ => by simp at hx⟩
  have none0 : ∀ b o, ¬ Owned ([] : List Loc) ([] : List Ob) b o := fun b o ⟨i, x, l, hx, _⟩ => by simp at hx
  have hg := g I [] w cargs rel0 ⟨hargs.1, fun j x y hx hy => (hargs.2 j x y hx hy).norefs (idsL_mem ha hx)⟩
  have step : ∀ I' m' w' y, Step I [] [] w I' m' h1 w' → VRel I' m' r y → ∃ I'' m'', Step I m h w I'' m'' (h ++ h1.map (mapOb h.length)) w' ∧ VRel I'' m'' (mapA h.length r) y := fun I' m' w' y st hv => by
    have hlen := rel.len
    have hlen' := st.rel.len
    have up : ∀ (i : Nat) l, m'[i]? = some l → (m ++ m')[h.length + i]? = some l := fun i l hl => by
      rw [List.getElem?_append_right (by omega), ← hl]
      congr 1
      omega
    have oldO : ∀ i b o, i < h.length → (owns (m ++ m') (h ++ h1.map (mapOb h.length)) i b o ↔ owns m h i b o) := fun i b o hi => by
      unfold owns
      rw [List.getElem?_append_left hi, List.getElem?_append_left (by omega)]
    have newO : ∀ i b o, owns (m ++ m') (h ++ h1.map (mapOb h.length)) (h.length + i) b o ↔ owns m' h1 i b o := fun i b o => by
      unfold owns
      rw [List.getElem?_append_right (by omega), List.getElem?_append_right (by omega), List.getElem?_map, show h.length + i - h.length = i by omega, show h.length + i - m.length = i by omega]
      constructor
      · rintro ⟨x, l, hx, hl, hat⟩
        cases hj : h1[i]? with
        | none => rw [hj] at hx; cases hx
        | some z => rw [hj] at hx; obtain rfl := Option.some.inj hx; exact ⟨z, l, rfl, hl, mapOb_at.1 hat⟩
      · rintro ⟨x, l, hx, hl, hat⟩
        rw [hx]
        exact ⟨_, l, rfl, hl, mapOb_at.2 hat⟩
    have split : ∀ i b o, owns (m ++ m') (h ++ h1.map (mapOb h.length)) i b o → (i < h.length ∧ owns m h i b o) ∨ (∃ j, i = h.length + j ∧ owns m' h1 j b o) := fun i b o ho => by
      rcases Nat.lt_or_ge i h.length with hi | hi
      · exact .inl ⟨hi, (oldO i b o hi).1 ho⟩
      · obtain ⟨j, rfl⟩ : ∃ j, i = h.length + j := ⟨i - h.length, by omega⟩
        exact .inr ⟨j, rfl, (newO j b o).1 ho⟩
    have newlt : ∀ j b o, owns m' h1 j b o → w.heap.size ≤ b := fun j b o ho => (st.own b o ⟨j, ho⟩).elim (fun h => absurd h (none0 b o)) id
    have oldlt : ∀ i b o, owns m h i b o → b < w.heap.size := fun i b o ho => rel.owned_lt ⟨i, ho⟩
    refine ⟨I', m ++ m', ⟨⟨by simp [hlen, hlen'], st.rel.imm, fun i x l hx hl => ?_, fun i j b o hij h2 h3 => ?_, fun b o ⟨i, hi⟩ => ?_⟩, MLe.append m m', st.ile, ?_, fun b o ⟨i, hi⟩ => ?_, fun b o z hz => ?_⟩, hv.app up⟩
    · rcases Nat.lt_or_ge i h.length with hi | hi
      · rw [List.getElem?_append_left hi] at hx
        rw [List.getElem?_append_left (by omega)] at hl
        exact (rel.ob i x l hx hl).keep st.ile (MLe.append m m') st.fr (fun b o _ => none0 b o)
      · rw [List.getElem?_append_right hi, List.getElem?_map] at hx
        rw [List.getElem?_append_right (by omega)] at hl
        cases hj : h1[i - h.length]? with
        | none => rw [hj] at hx; cases hx
        | some z =>
          rw [hj] at hx
          obtain rfl := Option.some.inj hx
          exact (st.rel.ob (i - h.length) z l hj (by rw [← hlen]; exact hl)).app up
    · rcases split _ _ _ h2 with ⟨hi, a1⟩ | ⟨i', rfl, a1⟩ <;> rcases split _ _ _ h3 with ⟨hj, a2⟩ | ⟨j', rfl, a2⟩
      · exact rel.sep i j b o hij a1 a2
      · have := oldlt _ _ _ a1; have := newlt _ _ _ a2; omega
      · have := oldlt _ _ _ a2; have := newlt _ _ _ a1; omega
      · exact st.rel.sep i' j' b o (by omega) a1 a2
    · rcases split _ _ _ hi with ⟨_, a1⟩ | ⟨j, rfl, a1⟩
      · cases hz : I' b o with
        | none => rfl
        | some z =>
          rcases st.immn b o z hz with h4 | h4 | h4
          · rw [rel.immsep b o ⟨i, a1⟩] at h4; cases h4
          · exact absurd h4 (none0 b o)
          · have := oldlt _ _ _ a1; omega
      · exact st.rel.immsep b o ⟨j, a1⟩
    · exact ⟨st.fr.os, st.fr.tape, st.fr.output, st.fr.size, fun b hb _ => st.fr.block b hb fun o => none0 b o, fun b o hb _ => st.fr.cell b o hb (none0 b o), fun b o hb _ => st.fr.frozen b o hb (none0 b o)⟩
    · rcases split _ _ _ hi with ⟨_, a1⟩ | ⟨j, rfl, a1⟩
      · exact .inl ⟨i, a1⟩
      · exact .inr (newlt _ _ _ a1)
    · rcases st.immn b o z hz with h4 | h4 | h4
      · exact .inl h4
      · exact absurd h4 (none0 b o)
      · exact .inr (.inr h4)
  unfold CallsV at hg ⊢
  split at hg
  · rename_i gg as w' he
    refine hg.mono fun e w'' hh => ?_
    cases e with
    | returned v => obtain ⟨I', m', st, hv⟩ := hh; exact step I' m' w'' v st hv
    | _ => exact hh.elim
  · obtain ⟨I', m', st, hv⟩ := hg
    exact step I' m' _ _ st hv
  · exact hg.elim

/-- What is known of functions that are handed no object: said over an empty memory. -/
def appFns (S : FuncId → List A → Option (A × List Ob)) : Fns := fun g args h =>
  match S g args with
  | some (r, h1) => if (idsL args).isEmpty then some (mapA h.length r, h ++ h1.map (mapOb h.length)) else none
  | none => none

theorem appFns_sound {S : FuncId → List A → Option (A × List Ob)} (hS : ∀ g args r h1, S g args = some (r, h1) → Good P g args [] r h1) : Sound P (appFns S) := by
  intro g args h r h' he
  unfold appFns at he
  split at he
  · rename_i r1 h1 hs
    split at he
    · rename_i hi
      obtain ⟨rfl, rfl⟩ := Prod.mk.inj (Option.some.inj he)
      exact (hS g args r1 h1 hs).app (List.isEmpty_iff.1 hi) h
    · cases he
  · cases he

/-- What is handed over is written no more; then the contract is asked. -/
def frzFns (F : Fns) : Fns := fun g args h =>
  match freezeAll h args with
  | some (args', h') => F g args' h'
  | none => none

theorem frzFns_sound {F : Fns} (hF : Sound P F) : Sound P (frzFns F) := by
  intro g args h r h' he I m w cargs rel hargs
  unfold frzFns at he
  split at he
  · rename_i args' h1 hf
    obtain ⟨I1, st, hl, hr, _⟩ := freezeAll_sound rel hargs hf
    have hg := hF g args' h1 r h' he I1 m w cargs st.rel ⟨hl, fun j x y hx hy => .flat (hr j x y hx hy)⟩
    unfold CallsV at hg ⊢
    split at hg
    · rename_i gg vs w' hc
      refine hg.mono fun e w'' hh => ?_
      cases e with
      | returned v => obtain ⟨I', m', s2, hv⟩ := hh; exact ⟨I', m', st.trans s2, hv⟩
      | _ => exact hh.elim
    · obtain ⟨I', m', s2, hv⟩ := hg
      exact ⟨I', m', st.trans s2, hv⟩
    · exact hg.elim
  · cases he

/-- One or the other is known. -/
def orFns (F G : Fns) : Fns := fun g args h =>
  match F g args h with
  | some x => some x
  | none => G g args h
theorem orFns_sound {F G : Fns} (hF : Sound P F) (hG : Sound P G) : Sound P (orFns F G) := by
  intro g args h r h' he
  unfold orFns at he
  split at he
  · rename_i x hx
    obtain rfl := Option.some.inj he
    exact hF g args h r h' hx
  · exact hG g args h r h' he

end
attribute [simp] mapA mapL mapOb
end Go.Flat
