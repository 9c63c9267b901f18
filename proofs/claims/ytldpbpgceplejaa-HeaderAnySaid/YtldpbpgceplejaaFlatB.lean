/-
  The steps that memory takes, each said of objects: a new object, cells written, an object given up, a row that nobody writes any more, a row that goes on elsewhere.
-/
import Derived.Test.YtldpbpgceplejaaFlatA
namespace Go.Flat

theorem RowRel.mono {R R' : A → Value → Prop} {w : World} {l : Loc} {xs : List A} (h : RowRel R w l xs) (hR : ∀ x y, R x y → R' x y) : RowRel R' w l xs :=
  ⟨h.lt, h.fits, h.there, h.free, h.mark, fun j x y hx hy => hR _ _ (h.holds j x y hx hy)⟩

theorem owned_append {m : List Loc} {h : List Ob} (hl : m.length = h.length) {l : Loc} {x : Ob} {b o : Nat} : Owned (m ++ [l]) (h ++ [x]) b o ↔ Owned m h b o ∨ x.at l b o := by
  constructor
  · rintro ⟨i, y, k, hy, hk, hh⟩
    rcases Nat.lt_or_ge i h.length with hi | hi
    · rw [List.getElem?_append_left hi] at hy
      rw [List.getElem?_append_left (by omega)] at hk
      exact .inl ⟨i, y, k, hy, hk, hh⟩
    · rw [List.getElem?_append_right hi] at hy
      rw [List.getElem?_append_right (by omega)] at hk
      have h0 : i - h.length = 0 := by
        have := (List.getElem?_eq_some_iff.1 hy).1
        simp at this; omega
      rw [h0] at hy
      rw [hl, h0] at hk
      simp at hy hk
      subst hy; subst hk
      exact .inr hh
  · rintro (⟨i, y, k, hy, hk, hh⟩ | hh)
    · refine ⟨i, y, k, ?_, ?_, hh⟩
      · rw [List.getElem?_append_left (List.getElem?_eq_some_iff.1 hy).1]; exact hy
      · rw [List.getElem?_append_left (List.getElem?_eq_some_iff.1 hk).1]; exact hk
    · exact ⟨h.length, x, l, by simp, by rw [← hl]; simp, hh⟩

theorem owns_append {m : List Loc} {h : List Ob} (hl : m.length = h.length) {l : Loc} {x : Ob} {i b o : Nat} (ho : owns (m ++ [l]) (h ++ [x]) i b o) : (i < h.length ∧ owns m h i b o) ∨ (i = h.length ∧ x.at l b o) := by
  obtain ⟨y, k, hy, hk, hh⟩ := ho
  rcases Nat.lt_or_ge i h.length with hi | hi
  · rw [List.getElem?_append_left hi] at hy
    rw [List.getElem?_append_left (by omega)] at hk
    exact .inl ⟨hi, y, k, hy, hk, hh⟩
  · rw [List.getElem?_append_right hi] at hy
    rw [List.getElem?_append_right (by omega)] at hk
    have h0 : i - h.length = 0 := by
      have := (List.getElem?_eq_some_iff.1 hy).1
      simp at this; omega
    rw [h0] at hy
    rw [hl, h0] at hk
    simp at hy hk
    subst hy; subst hk
    exact .inr ⟨by omega, hh⟩

/-- A new object in a new block. -/
theorem Step.add {I : Imm} {m : List Loc} {h : List Ob} {w : World} (r : Rel I m h w) {x : Ob} {l : Loc} {o : Obj} (hx : ObRel I (m ++ [l]) (w.alloc o) x l) (hb : ∀ b p, x.at l b p → b = w.heap.size) :
    Step I m h w I (m ++ [l]) (h ++ [x]) (w.alloc o) := by
  have lt := fun b p (hp : Owned m h b p) => r.owned_lt hp
  refine ⟨⟨by simp [r.len], fun b p z hz => ?_, fun i y k hy hk => ?_, fun i j b p hij hi hj => ?_, fun b p hp => ?_⟩, MLe.append _ _, ILe.refl I, Fr.alloc _ _ _, fun b p hp => ?_, fun _ _ _ h => .inl h⟩
  · rw [World.cell?_alloc_lt _ _ _ (cell_lt (r.imm b p z hz))]; exact r.imm b p z hz
  · rcases Nat.lt_or_ge i h.length with hi | hi
    · rw [List.getElem?_append_left hi] at hy
      rw [List.getElem?_append_left (by have := r.len; omega)] at hk
      exact (r.ob i y k hy hk).keep (ILe.refl I) (MLe.append _ _) (Fr.alloc (fun _ _ => False) w o) (fun _ _ _ h => h)
    · rw [List.getElem?_append_right hi] at hy
      rw [List.getElem?_append_right (by have := r.len; omega)] at hk
      have h0 : i - h.length = 0 := by
        have := (List.getElem?_eq_some_iff.1 hy).1
        simp at this; omega
      rw [h0] at hy
      rw [r.len, h0] at hk
      simp at hy hk
      subst hy; subst hk
      exact hx
  · rcases owns_append r.len hi with ⟨_, a1⟩ | ⟨e1, a1⟩ <;> rcases owns_append r.len hj with ⟨_, a2⟩ | ⟨e2, a2⟩
    · exact r.sep i j b p hij a1 a2
    · have := lt b p ⟨i, a1⟩; have := hb b p a2; omega
    · have := lt b p ⟨j, a2⟩; have := hb b p a1; omega
    · omega
  · rcases (owned_append r.len).1 hp with hp | hp
    · exact r.immsep b p hp
    · cases hI : I b p with
      | none => rfl
      | some z => have := cell_lt (r.imm b p z hI); have := hb b p hp; omega
  · rcases (owned_append r.len).1 hp with hp | hp
    · exact .inl hp
    · exact .inr (Nat.le_of_eq (hb b p hp).symm)

theorem owns_set {m : List Loc} {h : List Ob} {i : Nat} {x x' : Ob} {l : Loc} (hi : h[i]? = some x) (hl : m[i]? = some l) (ha : ∀ b o, x'.at l b o → x.at l b o) {j b o : Nat} (ho : owns m (h.set i x') j b o) : owns m h j b o := by
  obtain ⟨y, k, hy, hk, hh⟩ := ho
  rw [List.getElem?_set] at hy
  by_cases e : i = j
  · subst e
    rw [if_pos rfl, if_pos (List.getElem?_eq_some_iff.1 hi).1] at hy
    obtain rfl := Option.some.inj hy
    obtain rfl := Option.some.inj (hl.symm.trans hk)
    exact ⟨x, _, hi, hl, ha _ _ hh⟩
  · rw [if_neg e] at hy
    exact ⟨y, k, hy, hk, hh⟩

/-- An object turns, and nothing but its own cells; more may be kept from now on. -/
theorem Step.turnI {I I' : Imm} {m : List Loc} {h : List Ob} {w w' : World} (r : Rel I m h w) {i : Nat} {x x' : Ob} {l : Loc} (hi : h[i]? = some x) (hl : m[i]? = some l) (f : Fr (x.at l) w w')
    (hI : ILe I I') (hn : ∀ b o z, I' b o = some z → I b o = some z ∨ (x.at l b o ∧ w'.cell? ⟨b, o, none⟩ = some z)) (hs : ∀ b o, x'.at l b o → I' b o = none)
    (hx : ObRel I' m w' x' l) (ha : ∀ b o, x'.at l b o → x.at l b o) : Step I m h w I' m (h.set i x') w' := by
  have own1 : ∀ b o, x.at l b o → owns m h i b o := fun b o hh => ⟨x, l, hi, hl, hh⟩
  have oset : ∀ j b o, owns m (h.set i x') j b o → owns m h j b o := fun j b o => owns_set hi hl ha
  refine ⟨⟨by simp [r.len], fun b p z hz => ?_, fun j y k hy hk => ?_, fun j k b p hjk h1 h2 => r.sep j k b p hjk (oset _ _ _ h1) (oset _ _ _ h2), fun b p hp => ?_⟩, MLe.refl m, hI,
    f.mono (fun b o _ hh => ⟨i, own1 b o hh⟩), fun b p ⟨j, hj⟩ => .inl ⟨j, oset _ _ _ hj⟩, fun b p z hz => ?_⟩
  · rcases hn b p z hz with hz | ⟨_, hz⟩
    · rw [f.cell b p (cell_lt (r.imm b p z hz)) (fun hh => by rw [r.immsep b p ⟨i, own1 b p hh⟩] at hz; cases hz)]; exact r.imm b p z hz
    · exact hz
  · rw [List.getElem?_set] at hy
    by_cases e : i = j
    · subst e
      rw [if_pos rfl, if_pos (List.getElem?_eq_some_iff.1 hi).1] at hy
      obtain rfl := Option.some.inj hy
      obtain rfl := Option.some.inj (hl.symm.trans hk)
      exact hx
    · rw [if_neg e] at hy
      exact (r.ob j y k hy hk).keep hI (MLe.refl m) f (fun b o hh h2 => r.sep j i b o (fun e' => e e'.symm) ⟨y, k, hy, hk, hh⟩ (own1 b o h2))
  · obtain ⟨j, hj⟩ := hp
    obtain ⟨y, k, hy, hk, hh⟩ := hj
    cases hc : I' b p with
    | none => rfl
    | some z =>
      exfalso
      by_cases e : i = j
      · subst e
        rw [List.getElem?_set, if_pos rfl, if_pos (List.getElem?_eq_some_iff.1 hi).1] at hy
        obtain rfl := Option.some.inj hy
        obtain rfl := Option.some.inj (hl.symm.trans hk)
        rw [hs b p hh] at hc; cases hc
      · have hj : owns m h j b p := oset j b p ⟨y, k, hy, hk, hh⟩
        rcases hn b p z hc with hz | ⟨hh2, _⟩
        · rw [r.immsep b p ⟨j, hj⟩] at hz; cases hz
        · exact r.sep j i b p (fun e' => e e'.symm) hj (own1 b p hh2)
  · rcases hn b p z hz with hz | ⟨hh, _⟩
    · exact .inl hz
    · exact .inr (.inl ⟨i, own1 b p hh⟩)

theorem Step.turn {I : Imm} {m : List Loc} {h : List Ob} {w w' : World} (r : Rel I m h w) {i : Nat} {x x' : Ob} {l : Loc} (hi : h[i]? = some x) (hl : m[i]? = some l) (f : Fr (x.at l) w w')
    (hx : ObRel I m w' x' l) (ha : ∀ b o, x'.at l b o → x.at l b o) : Step I m h w I m (h.set i x') w' :=
  Step.turnI r hi hl f (ILe.refl I) (fun _ _ _ h => .inl h) (fun b o hh => r.immsep b o ⟨i, x, l, hi, hl, ha b o hh⟩) hx ha

/-- An object is given up. -/
theorem Step.kill {I : Imm} {m : List Loc} {h : List Ob} {w : World} (r : Rel I m h w) (i : Nat) : Step I m h w I m (h.set i .dead) w := by
  cases hi : h[i]? with
  | none =>
    have : h.set i .dead = h := List.set_eq_of_length_le (by simpa using hi)
    rw [this]
    exact Step.refl r
  | some x =>
    have hlt : i < m.length := by rw [r.len]; exact (List.getElem?_eq_some_iff.1 hi).1
    exact Step.turn r hi (List.getElem?_eq_getElem hlt) (Fr.refl _ _) trivial (fun _ _ h => h.elim)

/-- A row that nobody writes any more. -/
theorem Step.freeze {I : Imm} {m : List Loc} {h : List Ob} {w : World} (r : Rel I m h w) {i : Nat} {xs : List A} {l : Loc} (hi : h[i]? = some (.row xs)) (hl : m[i]? = some l) :
    Step I m h w (fun b o => if b = l.blk ∧ l.off ≤ o ∧ o < l.off + xs.length then w.cell? ⟨b, o, none⟩ else I b o) m (h.set i (.ro xs)) w ∧
      ∀ (j : Nat) x, xs[j]? = some x → ∃ z, w.cell? ⟨l.blk, l.off + j, none⟩ = some z ∧ FRel I x z := by
  have rr : RowRel (FRel I) w l xs := r.ob i _ l hi hl
  have hcell : ∀ (j : Nat) x, xs[j]? = some x → ∃ z, w.cell? ⟨l.blk, l.off + j, none⟩ = some z ∧ FRel I x z := fun j x hx => by
    have hj : j < xs.length := (List.getElem?_eq_some_iff.1 hx).1
    obtain ⟨z, hz⟩ := Option.isSome_iff_exists.1 (rr.there j (Nat.lt_of_lt_of_le hj rr.fits))
    exact ⟨z, hz, rr.holds j x z hx hz⟩
  have hle : ILe I (fun b o => if b = l.blk ∧ l.off ≤ o ∧ o < l.off + xs.length then w.cell? ⟨b, o, none⟩ else I b o) := fun b o z hz => by
    dsimp only
    split
    · exact r.imm b o z hz
    · exact hz
  refine ⟨Step.turnI r hi hl (Fr.refl _ _) hle (fun b o z hz => ?_) (fun _ _ h => h.elim) ⟨rr.lt, fun j x hx => ?_⟩ (fun _ _ h => h.elim), hcell⟩
  · split at hz
    · rename_i hc
      exact .inr ⟨hc.1, hz⟩
    · exact .inl hz
  · obtain ⟨z, hz, hf⟩ := hcell j x hx
    refine ⟨z, ?_, hf.mono hle⟩
    have hj := (List.getElem?_eq_some_iff.1 hx).1
    show (if l.blk = l.blk ∧ l.off ≤ l.off + j ∧ l.off + j < l.off + xs.length then w.cell? ⟨l.blk, l.off + j, none⟩ else I l.blk (l.off + j)) = some z
    rw [if_pos ⟨rfl, by omega, by omega⟩]
    exact hz

/-- A row that nobody writes, once more under a new number. -/
theorem Step.add_ro {I : Imm} {m : List Loc} {h : List Ob} {w : World} (r : Rel I m h w) (ys : List A) (l : Loc) (hlt : l.blk < w.heap.size) (hx : ∀ (j : Nat) x, ys[j]? = some x → ∃ z, I l.blk (l.off + j) = some z ∧ FRel I x z) :
    Step I m h w I (m ++ [l]) (h ++ [.ro ys]) w := by
  refine ⟨⟨by simp [r.len], r.imm, fun j y q hy' hq => ?_, fun j q b o hjq h1 h2 => ?_, fun b o hp => ?_⟩, MLe.append _ _, ILe.refl I, Fr.refl _ _, fun b o hp => .inl ?_, fun _ _ _ h => .inl h⟩
  · rcases Nat.lt_or_ge j h.length with hj | hj
    · rw [List.getElem?_append_left hj] at hy'
      rw [List.getElem?_append_left (by rw [r.len]; omega)] at hq
      exact (r.ob j y q hy' hq).keep (ILe.refl I) (MLe.append _ _) (Fr.refl (fun _ _ => False) w) (fun _ _ _ h => h)
    · rw [List.getElem?_append_right hj] at hy'
      rw [List.getElem?_append_right (by rw [r.len]; omega)] at hq
      have h0 : j - h.length = 0 := by
        have := (List.getElem?_eq_some_iff.1 hy').1
        simp at this ⊢; omega
      rw [h0] at hy'
      rw [r.len, h0] at hq
      simp at hy' hq
      subst hy'; subst hq
      exact ⟨hlt, hx⟩
  · rcases owns_append r.len h1 with ⟨_, a1⟩ | ⟨e1, a1⟩ <;> rcases owns_append r.len h2 with ⟨_, a2⟩ | ⟨e2, a2⟩
    · exact r.sep j q b o hjq a1 a2
    · exact a2.elim
    · exact a1.elim
    · exact a1.elim
  · rcases (owned_append r.len).1 hp with hp | hp
    · exact r.immsep b o hp
    · exact hp.elim
  · rcases (owned_append r.len).1 hp with hp | hp
    · exact hp
    · exact hp.elim

/-- A row that nobody writes, and is longer than it was known to be: the old part of it under its number, the whole of it, from a place on, under a new one. -/
theorem Step.ro_more {I : Imm} {m : List Loc} {h : List Ob} {w : World} (r : Rel I m h w) {i : Nat} {xs news : List A} {l : Loc} (hi : h[i]? = some (.ro (xs ++ news))) (hl : m[i]? = some l) (off ext : Nat) (ho : off ≤ xs.length) :
    Step I m h w I (m ++ [⟨l.blk, l.off + off, ext⟩]) (h.set i (.ro xs) ++ [.ro (xs.drop off ++ news)]) w := by
  have hob := r.ob i _ l hi hl
  have st := Step.turn r hi hl (Fr.refl _ _) (x' := .ro xs) ⟨hob.1, fun j x hx => hob.2 j x (by rw [List.getElem?_append_left (List.getElem?_eq_some_iff.1 hx).1]; exact hx)⟩ (fun _ _ h => h.elim)
  refine st.trans (Step.add_ro st.rel _ ⟨l.blk, l.off + off, ext⟩ hob.1 fun j x hx => ?_)
  have e : xs.drop off ++ news = (xs ++ news).drop off := by rw [List.drop_append_of_le_length ho]
  rw [e, List.getElem?_drop] at hx
  obtain ⟨z, hz, hf⟩ := hob.2 _ x hx
  exact ⟨z, by rw [← hz]; dsimp only; congr 1; omega, hf⟩

/-- Some of a list's elements are put in others' place (or behind them). -/
def splice (xs : List A) (j : Nat) (news : List A) : List A := xs.take j ++ news ++ xs.drop (j + news.length)

theorem splice_get {xs news : List A} {j k : Nat} {x : A} (hj : j ≤ xs.length) (h : (splice xs j news)[k]? = some x) :
    (j ≤ k ∧ k < j + news.length ∧ news[k - j]? = some x) ∨ ((k < j ∨ j + news.length ≤ k) ∧ xs[k]? = some x) := by
  unfold splice at h
  have ht : (xs.take j).length = j := by rw [List.length_take]; omega
  rcases Nat.lt_or_ge k j with h1 | h1
  · rw [List.append_assoc, List.getElem?_append_left (by omega), List.getElem?_take_of_lt h1] at h
    exact .inr ⟨.inl h1, h⟩
  · rcases Nat.lt_or_ge k (j + news.length) with h2 | h2
    · rw [List.getElem?_append_left (by rw [List.length_append]; omega), List.getElem?_append_right (by omega), ht] at h
      exact .inl ⟨h1, h2, h⟩
    · rw [List.getElem?_append_right (by rw [List.length_append]; omega), List.getElem?_drop] at h
      refine .inr ⟨.inr h2, ?_⟩
      rw [← h]
      congr 1
      rw [List.length_append, ht]; omega

theorem splice_length {xs news : List A} {j : Nat} (hj : j ≤ xs.length) : (splice xs j news).length = max xs.length (j + news.length) := by
  unfold splice
  simp only [List.length_append, List.length_take, List.length_drop]
  omega

theorem setCells_cells (b : Nat) : ∀ (vs : List Value) (o : Nat) (w : World) {c : Array Value} {e : TypeId} {fz : Nat × Nat}, (w.setCells b o vs).heap[b]? = some (.cells c e fz) → ∃ c0, w.heap[b]? = some (.cells c0 e fz) ∧ c0.size = c.size
  | [], o, w, c, e, fz, h => ⟨c, h, rfl⟩
  | v :: r, o, w, c, e, fz, h => by
    rw [World.setCells] at h
    obtain ⟨c1, h1, h2⟩ := setCells_cells b r _ _ h
    simp only [World.setCell, Array.getElem?_modify] at h1
    rw [if_pos trivial] at h1
    cases hb : w.heap[b]? with
    | none => rw [hb] at h1; cases h1
    | some ob =>
      rw [hb] at h1
      cases ob with
      | cells c0 e0 f0 =>
        simp at h1
        obtain ⟨rfl, rfl, rfl⟩ := h1
        exact ⟨c0, rfl, by rw [← h2]; simp⟩
      | _ => simp at h1
theorem RowRel.write {R : A → Value → Prop} {w : World} {l : Loc} {xs : List A} (h : RowRel R w l xs) (j : Nat) (news : List A) (ys : List Value) (hlen : news.length = ys.length) (hj : j ≤ xs.length) (hfit : j + ys.length ≤ l.ext)
    (hv : ∀ (k : Nat) x y, news[k]? = some x → ys[k]? = some y → R x y) : RowRel R (w.setCells l.blk (l.off + j) ys) l (splice xs j news) := by
  have hin := World.cell?_setCells_in l.blk ys (l.off + j) w (fun k hk => by rw [Nat.add_assoc]; exact h.there (j + k) (by omega))
  have hout : ∀ k, (k < j ∨ j + ys.length ≤ k) → (w.setCells l.blk (l.off + j) ys).cell? ⟨l.blk, l.off + k, none⟩ = w.cell? ⟨l.blk, l.off + k, none⟩ := fun k hk =>
    World.cell?_setCells_out _ _ _ _ _ (fun _ _ => by dsimp only; omega)
  refine ⟨by rw [setCells_size]; exact h.lt, by rw [splice_length hj]; have := h.fits; omega, fun k hk => ?_, fun k hk => by rw [World.frozen?_setCells]; exact h.free k hk, fun c e fz hc => by obtain ⟨c0, h0, hs⟩ := setCells_cells l.blk ys _ w hc; rw [← hs]; exact h.mark c0 e fz h0, fun k x y hx hy => ?_⟩
  · rcases Nat.lt_or_ge k j with h1 | h1
    · rw [hout k (.inl h1)]; exact h.there k hk
    · rcases Nat.lt_or_ge k (j + ys.length) with h2 | h2
      · have := hin (k - j) (by omega)
        rw [show l.off + j + (k - j) = l.off + k by omega] at this
        rw [this]; rfl
      · rw [hout k (.inr h2)]; exact h.there k hk
  · rcases splice_get hj hx with ⟨h1, h2, h3⟩ | ⟨h1, h3⟩
    · have := hin (k - j) (by omega)
      rw [show l.off + j + (k - j) = l.off + k by omega] at this
      rw [this] at hy
      exact hv _ _ _ h3 (by rw [List.getElem?_eq_getElem (by omega)]; exact hy)
    · rw [hout k (by omega)] at hy
      exact h.holds k x y h3 hy

theorem Step.write_cells {I : Imm} {m : List Loc} {h : List Ob} {w : World} (r : Rel I m h w) {i : Nat} {xs : List A} {l : Loc} (hi : h[i]? = some (.cells xs)) (hl : m[i]? = some l) (j : Nat) (news : List A) (ys : List Value) (hlen : news.length = ys.length) (hj : j ≤ xs.length) (hfit : j + ys.length ≤ l.ext)
    (hv : ∀ (k : Nat) x y, news[k]? = some x → ys[k]? = some y → VRel I m x y) : Step I m h w I m (h.set i (.cells (splice xs j news))) (w.setCells l.blk (l.off + j) ys) :=
  Step.turn r hi hl (Fr.setCells _ _ _ _ _ (fun k hk => rfl)) (RowRel.write (r.ob i _ l hi hl) j news ys hlen hj hfit hv) (fun _ _ h => h)

theorem Step.write_row {I : Imm} {m : List Loc} {h : List Ob} {w : World} (r : Rel I m h w) {i : Nat} {xs : List A} {l : Loc} (hi : h[i]? = some (.row xs)) (hl : m[i]? = some l) (j : Nat) (news : List A) (ys : List Value) (hlen : news.length = ys.length) (hj : j ≤ xs.length) (hfit : j + ys.length ≤ l.ext)
    (hv : ∀ (k : Nat) x y, news[k]? = some x → ys[k]? = some y → FRel I x y) : Step I m h w I m (h.set i (.row (splice xs j news))) (w.setCells l.blk (l.off + j) ys) :=
  Step.turn r hi hl (Fr.setCells _ _ _ _ _ (fun k hk => rfl)) (RowRel.write (r.ob i _ l hi hl) j news ys hlen hj hfit hv) (fun _ _ h => h)

/-- A row goes on under a new number, from a place on; the old one is given up. -/
theorem Step.reseat {I : Imm} {m : List Loc} {h : List Ob} {w : World} (r : Rel I m h w) {i : Nat} {xs ys : List A} {l : Loc} (hi : h[i]? = some (.row xs)) (hl : m[i]? = some l) (v : Nat) (hv : v ≤ l.ext) (hy : ∀ (k : Nat) y, ys[k]? = some y → xs[v + k]? = some y) (hyl : v + ys.length ≤ l.ext) :
    Step I m h w I (m ++ [⟨l.blk, l.off + v, l.ext - v⟩]) (h.set i .dead ++ [.row ys]) w := by
  have rr : RowRel (FRel I) w l xs := r.ob i _ l hi hl
  have sub : ∀ b o, (Ob.row ys).at ⟨l.blk, l.off + v, l.ext - v⟩ b o → owns m h i b o := fun b o hh => ⟨_, l, hi, hl, hh⟩
  have k := Step.kill r i
  have hlen : m.length = (h.set i Ob.dead).length := by simp [r.len]
  have okill : ∀ j b o, owns m (h.set i .dead) j b o → j ≠ i ∧ owns m h j b o := fun j b o hh => by
    refine ⟨fun e => ?_, owns_set (x' := .dead) hi hl (fun _ _ h => h.elim) hh⟩
    subst e
    obtain ⟨y, k, hy, _, hh⟩ := hh
    rw [List.getElem?_set, if_pos rfl, if_pos (List.getElem?_eq_some_iff.1 hi).1] at hy
    obtain rfl := Option.some.inj hy
    exact hh.elim
  refine ⟨⟨by simp [r.len], r.imm, fun j y q hy' hq => ?_, fun j q b o hjq h1 h2 => ?_, fun b o hp => ?_⟩, MLe.append _ _, ILe.refl I, Fr.refl _ _, fun b o hp => .inl ?_, fun _ _ _ h => .inl h⟩
  · rcases Nat.lt_or_ge j (h.set i Ob.dead).length with hj | hj
    · rw [List.getElem?_append_left hj] at hy'
      rw [List.getElem?_append_left (by omega)] at hq
      exact (k.rel.ob j y q hy' hq).keep (ILe.refl I) (MLe.append _ _) (Fr.refl (fun _ _ => False) w) (fun _ _ _ h => h)
    · rw [List.getElem?_append_right hj] at hy'
      rw [List.getElem?_append_right (by omega)] at hq
      have h0 : j - (h.set i Ob.dead).length = 0 := by
        have := (List.getElem?_eq_some_iff.1 hy').1
        simp at this ⊢; omega
      rw [h0] at hy'
      rw [hlen, h0] at hq
      simp at hy' hq
      subst hy'; subst hq
      exact ⟨rr.lt, by dsimp only; omega, fun p hp => by rw [Nat.add_assoc]; exact rr.there (v + p) (by dsimp only at hp; omega), fun p hp => by rw [Nat.add_assoc]; exact rr.free (v + p) (by dsimp only at hp; omega), rr.mark,
        fun p x z hx hz => by rw [Nat.add_assoc] at hz; exact rr.holds (v + p) x z (hy p x hx) hz⟩
  · rcases owns_append hlen h1 with ⟨_, a1⟩ | ⟨e1, a1⟩ <;> rcases owns_append hlen h2 with ⟨_, a2⟩ | ⟨e2, a2⟩
    · exact r.sep j q b o hjq (okill _ _ _ a1).2 (okill _ _ _ a2).2
    · exact r.sep j i b o (okill _ _ _ a1).1 (okill _ _ _ a1).2 (sub b o a2)
    · exact r.sep q i b o (okill _ _ _ a2).1 (okill _ _ _ a2).2 (sub b o a1)
    · omega
  · rcases (owned_append hlen).1 hp with ⟨j, hj⟩ | hp
    · exact r.immsep b o ⟨j, (okill _ _ _ hj).2⟩
    · exact r.immsep b o ⟨i, sub b o hp⟩
  · rcases (owned_append hlen).1 hp with ⟨j, hj⟩ | hp
    · exact ⟨j, (okill _ _ _ hj).2⟩
    · exact ⟨i, sub b o hp⟩

/-- A new block of cells, as an object. -/
theorem Step.new_row {I : Imm} {m : List Loc} {h : List Ob} {w : World} (r : Rel I m h w) (xs : List A) (c : Array Value) (e : TypeId) (fz : Nat × Nat) (hf : fz.1 = fz.2 ∨ c.size ≤ fz.1) (hx : xs.length ≤ c.size)
    (hv : ∀ (j : Nat) x y, xs[j]? = some x → c[j]? = some y → FRel I x y) : Step I m h w I (m ++ [⟨w.heap.size, 0, c.size⟩]) (h ++ [.row xs]) (w.alloc (.cells c e fz)) := by
  have hc : ∀ j, (w.alloc (.cells c e fz)).cell? ⟨w.heap.size, j, none⟩ = c[j]? := fun j => by
    simp only [World.cell?, heap_alloc_at]; rfl
  refine Step.add r ⟨by simp, hx, fun j hj => ?_, fun j hj => ?_, fun c' e' fz' hc' => ?_, fun j x y h1 h2 => ?_⟩ (fun b p hh => hh)
  · rw [show ((⟨w.heap.size, 0, c.size⟩ : Loc).off + j) = j by simp, hc]; simpa using hj
  · rw [show ((⟨w.heap.size, 0, c.size⟩ : Loc).off + j) = j by simp]
    simp only [World.frozen?, heap_alloc_at]
    have : ¬ (fz.1 ≤ j ∧ j < fz.2) := by dsimp only at hj; omega
    simpa using this
  · rw [show (⟨w.heap.size, 0, c.size⟩ : Loc).blk = w.heap.size from rfl, heap_alloc_at] at hc'
    cases hc'
    exact hf
  · rw [show ((⟨w.heap.size, 0, c.size⟩ : Loc).off + j) = j by simp, hc] at h2
    exact hv j x y h1 h2

theorem Step.new_cells {I : Imm} {m : List Loc} {h : List Ob} {w : World} (r : Rel I m h w) (xs : List A) (c : Array Value) (e : TypeId) (hx : xs.length ≤ c.size)
    (hv : ∀ (j : Nat) x y, xs[j]? = some x → c[j]? = some y → VRel I m x y) : Step I m h w I (m ++ [⟨w.heap.size, 0, c.size⟩]) (h ++ [.cells xs]) (w.alloc (.cells c e)) := by
  refine Step.add r ⟨by simp, hx, fun j hj => ?_, fun j hj => ?_, fun c' e' fz' hc' => ?_, fun j x y h1 h2 => ?_⟩ (fun b p hh => hh)
  · rw [show ((⟨w.heap.size, 0, c.size⟩ : Loc).off + j) = j by simp, World.cell?_alloc_new]; simpa using hj
  · rw [show ((⟨w.heap.size, 0, c.size⟩ : Loc).off + j) = j by simp]; simp
  · rw [show (⟨w.heap.size, 0, c.size⟩ : Loc).blk = w.heap.size from rfl, heap_alloc_at] at hc'
    cases hc'
    exact .inl rfl
  · rw [show ((⟨w.heap.size, 0, c.size⟩ : Loc).off + j) = j by simp, World.cell?_alloc_new] at h2
    exact (hv j x y h1 h2).mono (ILe.refl I) (MLe.append _ _)


/-- A row gets a mark behind its last cell. -/
theorem Step.marked {I : Imm} {m : List Loc} {h : List Ob} {w : World} (r : Rel I m h w) {i : Nat} {xs : List A} {l : Loc} (hi : h[i]? = some (.row xs)) (hl : m[i]? = some l) {c : Array Value} {e : TypeId} {fz : Nat × Nat} (hc : w.heap[l.blk]? = some (.cells c e fz)) :
    Step I m h w I m h (w.freeze ⟨l.blk, c.size, none⟩ 1) := by
  have rr : RowRel (FRel I) w l xs := r.ob i _ l hi hl
  have hheap : ∀ b, (w.freeze ⟨l.blk, c.size, none⟩ 1).heap[b]? = if l.blk = b then some (.cells c e (if fz.1 == fz.2 then (c.size, c.size + 1) else (min fz.1 c.size, max fz.2 (c.size + 1)))) else w.heap[b]? := fun b => by
    unfold World.freeze
    rw [if_neg (by decide)]
    simp only [Array.getElem?_modify]
    by_cases hb : l.blk = b
    · subst hb
      rw [if_pos rfl, if_pos rfl, hc]
      rfl
    · rw [if_neg hb, if_neg hb]
  have hcell : ∀ b o, (w.freeze ⟨l.blk, c.size, none⟩ 1).cell? ⟨b, o, none⟩ = w.cell? ⟨b, o, none⟩ := fun b o => by
    simp only [World.cell?, hheap]
    by_cases hb : l.blk = b
    · subst hb; rw [if_pos rfl, hc]
    · rw [if_neg hb]
  have hfro : ∀ b o, b ≠ l.blk → (w.freeze ⟨l.blk, c.size, none⟩ 1).frozen? ⟨b, o, none⟩ = w.frozen? ⟨b, o, none⟩ := fun b o hb => by
    simp only [World.frozen?, hheap]
    rw [if_neg (fun e => hb e.symm)]
  have hsz : (w.freeze ⟨l.blk, c.size, none⟩ 1).heap.size = w.heap.size := by
    unfold World.freeze
    rw [if_neg (by decide)]
    simp
  have hos : (w.freeze ⟨l.blk, c.size, none⟩ 1).os = w.os ∧ (w.freeze ⟨l.blk, c.size, none⟩ 1).tape = w.tape ∧ (w.freeze ⟨l.blk, c.size, none⟩ 1).output = w.output := by
    unfold World.freeze
    rw [if_neg (by decide)]
    exact ⟨rfl, rfl, rfl⟩
  have hm := rr.mark c e fz hc
  have f : Fr ((Ob.row xs).at l) w (w.freeze ⟨l.blk, c.size, none⟩ 1) := ⟨hos.1, hos.2.1, hos.2.2, Nat.le_of_eq hsz.symm, fun b hb hn => by rw [hheap, if_neg (fun e => hn 0 e.symm)], fun b o hb hn => hcell b o, fun b o hb hn => hfro b o hn⟩
  have st := Step.turn r hi hl f (x' := .row xs) ⟨by rw [hsz]; exact rr.lt, rr.fits, fun j hj => by rw [hcell]; exact rr.there j hj, fun j hj => ?_, fun c' e' fz' hc' => ?_, fun j x y hx hy => by rw [hcell] at hy; exact rr.holds j x y hx hy⟩ (fun _ _ h => h)
  · have e0 : h.set i (.row xs) = h := by
      apply List.ext_getElem?
      intro j
      rw [List.getElem?_set]
      by_cases hij : i = j
      · subst hij; rw [if_pos rfl, if_pos (List.getElem?_eq_some_iff.1 hi).1, hi]
      · rw [if_neg hij]
    rw [e0] at st
    exact st
  · have hlt : l.off + j < c.size := by
      have := rr.there j hj
      simp only [World.cell?, hc] at this
      simpa using this
    simp only [World.frozen?, hheap, if_pos]
    by_cases hz : fz.1 = fz.2
    · simp [hz]; omega
    · simp [hz]; omega
  · rw [hheap, if_pos rfl] at hc'
    simp only [Option.some.injEq, Obj.cells.injEq] at hc'
    obtain ⟨rfl, rfl, rfl⟩ := hc'
    by_cases hz : fz.1 = fz.2
    · simp [hz]
    · simp [hz]; omega

end Go.Flat
