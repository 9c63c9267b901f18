/-
  A plain view of memory: values, objects, how they stand in a world, and what a step may turn. Nothing of a program's own stands here.
-/
import Derived.WalkKit
import Derived.Laws.IdiomCopy
namespace Go.Flat

/-- A value, as a function sees it: 'v': whatever bears no address of an object; 'ptr': object i's cell; 'sl': n elements of sz cells from object i's cell on; 'lst': a slice that nobody writes any more, by its cells; 'fp': a pointer to such cells; 'mp': a map. -/
inductive A where
  | v (x : Value)
  | agg (xs : List A)
  | tup (xs : List A)
  | ptr (i off : Nat)
  | sl (i off n sz : Nat)
  | lst (n : Nat) (cs : List A)
  | fp (cs : List A)
  | fn (f : FuncId) (caps : List A)
  | mp (i : Nat)
  | any
  deriving Inhabited

/-- Where an object lies: its block, its first cell, how many cells are its own. -/
structure Loc where
  blk : Nat
  off : Nat
  ext : Nat

/-- An object: 'cells': a variable's cells; 'row': cells that hold no object; 'ro': those, nobody writes them any more. -/
inductive Ob where
  | cells (xs : List A)
  | row (xs : List A)
  | ro (xs : List A)
  | map (es : List (A × A))
  | dead
  deriving Inhabited

/-- Cells that keep what they hold. -/
abbrev Imm := Nat → Nat → Option Value

inductive FRel (I : Imm) : A → Value → Prop
  | v (x : Value) : FRel I (.v x) x
  | lst (n cap b o : Nat) (cs : List A) (zs : Nat → Value) (hn : n ≤ cap) (hc : cap ≤ maxLen)
      (h1 : ∀ j c, cs[j]? = some c → I b (o + j) = some (zs j)) (h2 : ∀ j c, cs[j]? = some c → FRel I c (zs j)) :
      FRel I (.lst n cs) (.slice (some ⟨b, o, none⟩) n cap)
  | lst0 (a : Addr) (cap : Nat) (hc : cap ≤ maxLen) : FRel I (.lst 0 []) (.slice (some a) 0 cap)
  | lstN : FRel I (.lst 0 []) (.slice none 0 0)
  | fp (b o : Nat) (cs : List A) (zs : Nat → Value)
      (h1 : ∀ j c, cs[j]? = some c → I b (o + j) = some (zs j)) (h2 : ∀ j c, cs[j]? = some c → FRel I c (zs j)) :
      FRel I (.fp cs) (.pointer (some ⟨b, o, none⟩))

inductive VRel (I : Imm) (m : List Loc) : A → Value → Prop
  | flat {x y} (h : FRel I x y) : VRel I m x y
  | agg (xs : List A) (ys : List Value) (hl : xs.length = ys.length) (h : ∀ (j : Nat) (x : A) (y : Value), xs[j]? = some x → ys[j]? = some y → VRel I m x y) : VRel I m (.agg xs) (.agg ys.toArray)
  | tup (xs : List A) (ys : List Value) (hl : xs.length = ys.length) (h : ∀ (j : Nat) (x : A) (y : Value), xs[j]? = some x → ys[j]? = some y → VRel I m x y) : VRel I m (.tup xs) (.tuple ys.toArray)
  | ptr (i off : Nat) (l : Loc) (h : m[i]? = some l) : VRel I m (.ptr i off) (.pointer (some ⟨l.blk, l.off + off, none⟩))
  | sl (i off n sz cap : Nat) (l : Loc) (h : m[i]? = some l) (hn : n ≤ cap) (hc : cap ≤ maxLen) (he : off + cap * sz ≤ l.ext) :
      VRel I m (.sl i off n sz) (.slice (some ⟨l.blk, l.off + off, none⟩) n cap)
  | sl0 (i off sz : Nat) (a : Addr) : VRel I m (.sl i off 0 sz) (.slice (some a) 0 0)
  | fn (f : FuncId) (hf : f < 1000000) (xs : List A) (ys : List Value) (hl : xs.length = ys.length) (h : ∀ (j : Nat) (x : A) (y : Value), xs[j]? = some x → ys[j]? = some y → VRel I m x y) :
      VRel I m (.fn f xs) (.func (.func f) #[] ys.toArray)
  | bfn (f : FuncId) (xs : List A) (ys : List Value) (hl : xs.length = ys.length) (h : ∀ (j : Nat) (x : A) (y : Value), xs[j]? = some x → ys[j]? = some y → VRel I m x y) :
      VRel I m (.fn (f + 1000000) xs) (.func (.func f) ys.toArray #[])
  | mp (i : Nat) (l : Loc) (h : m[i]? = some l) : VRel I m (.mp i) (.map (some l.blk))
  | any (y : Value) : VRel I m .any y

/-- More is kept; more objects are known. -/
def ILe (I I' : Imm) : Prop := ∀ b o z, I b o = some z → I' b o = some z
def MLe (m m' : List Loc) : Prop := ∀ (i : Nat) l, m[i]? = some l → m'[i]? = some l
theorem ILe.refl (I : Imm) : ILe I I := fun _ _ _ h => h
theorem ILe.trans {I J K : Imm} (h : ILe I J) (k : ILe J K) : ILe I K := fun b o z hz => k b o z (h b o z hz)
theorem MLe.refl (m : List Loc) : MLe m m := fun _ _ h => h
theorem MLe.trans {a b c : List Loc} (h : MLe a b) (k : MLe b c) : MLe a c := fun i l hl => k i l (h i l hl)
theorem MLe.append (m n : List Loc) : MLe m (m ++ n) := fun i l h => by
  rw [List.getElem?_append_left (List.getElem?_eq_some_iff.1 h).1]; exact h

theorem FRel.mono {I I' : Imm} (hI : ILe I I') {x : A} {y : Value} (h : FRel I x y) : FRel I' x y := by
  induction h with
  | v x => exact .v x
  | lst n cap b o cs zs hn hc h1 _ ih => exact .lst n cap b o cs zs hn hc (fun j c hj => hI _ _ _ (h1 j c hj)) ih
  | lst0 a cap hc => exact .lst0 a cap hc
  | lstN => exact .lstN
  | fp b o cs zs h1 _ ih => exact .fp b o cs zs (fun j c hj => hI _ _ _ (h1 j c hj)) ih

theorem VRel.mono {I I' : Imm} {m m' : List Loc} (hI : ILe I I') (hm : MLe m m') {x : A} {y : Value} (h : VRel I m x y) : VRel I' m' x y := by
  induction h with
  | flat h => exact .flat (h.mono hI)
  | agg xs ys hl _ ih => exact .agg xs ys hl ih
  | tup xs ys hl _ ih => exact .tup xs ys hl ih
  | ptr i off l h => exact .ptr i off l (hm _ _ h)
  | sl i off n sz cap l h hn hc he => exact .sl i off n sz cap l (hm _ _ h) hn hc he
  | sl0 i off sz a => exact .sl0 i off sz a
  | fn f hf xs ys hl _ ih => exact .fn f hf xs ys hl ih
  | bfn f xs ys hl _ ih => exact .bfn f xs ys hl ih
  | mp i l h => exact .mp i l (hm _ _ h)
  | any y => exact .any y

/-- Cells from a place on hold these. 'ext' cells there are the object's own: they are there, and nothing keeps them from being written. -/
structure RowRel (R : A → Value → Prop) (w : World) (l : Loc) (xs : List A) : Prop where
  lt : l.blk < w.heap.size
  fits : xs.length ≤ l.ext
  there : ∀ j, j < l.ext → (w.cell? ⟨l.blk, l.off + j, none⟩).isSome = true
  free : ∀ j, j < l.ext → w.frozen? ⟨l.blk, l.off + j, none⟩ = false
  mark : ∀ c e fz, w.heap[l.blk]? = some (.cells c e fz) → fz.1 = fz.2 ∨ c.size ≤ fz.1
  holds : ∀ (j : Nat) x y, xs[j]? = some x → w.cell? ⟨l.blk, l.off + j, none⟩ = some y → R x y

def ObRel (I : Imm) (m : List Loc) (w : World) : Ob → Loc → Prop
  | .cells xs, l => RowRel (VRel I m) w l xs
  | .row xs, l => RowRel (FRel I) w l xs
  | .ro xs, l => l.blk < w.heap.size ∧ ∀ (j : Nat) x, xs[j]? = some x → ∃ z, I l.blk (l.off + j) = some z ∧ FRel I x z
  | .map es, l => ∃ (es' : List MapEntry) (clock : Nat), w.heap[l.blk]? = some (.map es'.toArray clock) ∧ es.length = es'.length ∧
      ∀ (j : Nat) x y, es[j]? = some x → es'[j]? = some y → VRel I m x.1 y.key ∧ VRel I m x.2 y.val
  | .dead, _ => True

/-- The cells that an object at a place may write. -/
def Ob.at (x : Ob) (l : Loc) (b o : Nat) : Prop :=
  match x with
  | .cells _ => b = l.blk
  | .row _ => b = l.blk
  | .map _ => b = l.blk
  | _ => False
def owns (m : List Loc) (h : List Ob) (i b o : Nat) : Prop := ∃ x l, h[i]? = some x ∧ m[i]? = some l ∧ x.at l b o
def Owned (m : List Loc) (h : List Ob) (b o : Nat) : Prop := ∃ i, owns m h i b o

/-- What of a world that was there has not turned: all but some cells. -/
structure Fr (own : Nat → Nat → Prop) (w w' : World) : Prop where
  os : w'.os = w.os
  tape : w'.tape = w.tape
  output : w'.output = w.output
  size : w.heap.size ≤ w'.heap.size
  block : ∀ b, b < w.heap.size → (∀ o, ¬ own b o) → w'.heap[b]? = w.heap[b]?
  cell : ∀ b o, b < w.heap.size → ¬ own b o → w'.cell? ⟨b, o, none⟩ = w.cell? ⟨b, o, none⟩
  frozen : ∀ b o, b < w.heap.size → ¬ own b o → w'.frozen? ⟨b, o, none⟩ = w.frozen? ⟨b, o, none⟩

theorem Fr.refl (own : Nat → Nat → Prop) (w : World) : Fr own w w := ⟨rfl, rfl, rfl, Nat.le_refl _, fun _ _ _ => rfl, fun _ _ _ _ => rfl, fun _ _ _ _ => rfl⟩

theorem Fr.trans {own own' : Nat → Nat → Prop} {a b c : World} (h : Fr own a b) (k : Fr own' b c) (ho : ∀ x o, own' x o → own x o ∨ a.heap.size ≤ x) : Fr own a c := by
  have no : ∀ x o, x < a.heap.size → ¬ own x o → ¬ own' x o := fun x o hx hn ho' => (ho x o ho').elim hn (fun h1 => by omega)
  have lt : ∀ x, x < a.heap.size → x < b.heap.size := fun x hx => Nat.lt_of_lt_of_le hx h.size
  exact ⟨k.os.trans h.os, k.tape.trans h.tape, k.output.trans h.output, Nat.le_trans h.size k.size,
    fun x hx hn => (k.block x (lt x hx) (fun o => no x o hx (hn o))).trans (h.block x hx hn),
    fun x o hx hn => (k.cell x o (lt x hx) (no x o hx hn)).trans (h.cell x o hx hn),
    fun x o hx hn => (k.frozen x o (lt x hx) (no x o hx hn)).trans (h.frozen x o hx hn)⟩

theorem Fr.mono {own own' : Nat → Nat → Prop} {w w' : World} (h : Fr own w w') (ho : ∀ x o, x < w.heap.size → own x o → own' x o) : Fr own' w w' :=
  ⟨h.os, h.tape, h.output, h.size, fun b hb hn => h.block b hb (fun o h1 => hn o (ho b o hb h1)), fun b o hb hn => h.cell b o hb (fun h1 => hn (ho b o hb h1)), fun b o hb hn => h.frozen b o hb (fun h1 => hn (ho b o hb h1))⟩

theorem Fr.drew (own : Nat → Nat → Prop) (w : World) : Fr own w w.drew := ⟨rfl, rfl, rfl, Nat.le_refl _, fun _ _ _ => rfl, fun _ _ _ _ => rfl, fun _ _ _ _ => rfl⟩

theorem heap_alloc_lt (w : World) (o : Obj) (b : Nat) (h : b < w.heap.size) : (w.alloc o).heap[b]? = w.heap[b]? := by
  show (w.heap.push o)[b]? = _
  rw [Array.getElem?_push, if_neg (by omega)]
theorem heap_alloc_at (w : World) (o : Obj) : (w.alloc o).heap[w.heap.size]? = some o := by
  show (w.heap.push o)[w.heap.size]? = _
  rw [Array.getElem?_push, if_pos rfl]

theorem Fr.alloc (own : Nat → Nat → Prop) (w : World) (o : Obj) : Fr own w (w.alloc o) :=
  ⟨rfl, rfl, rfl, by simp, fun b hb _ => heap_alloc_lt w o b hb, fun b _ hb _ => World.cell?_alloc_lt _ _ _ hb, fun b _ hb _ => World.frozen?_alloc_old _ _ _ (Nat.ne_of_lt hb)⟩

theorem heap_setCell_other (w : World) (a : Addr) (u : Value) (b : Nat) (h : b ≠ a.block) : (w.setCell a u).heap[b]? = w.heap[b]? := by
  simp only [World.setCell, Array.getElem?_modify]
  rw [if_neg (fun e => h e.symm)]

theorem setCells_size (b : Nat) : ∀ (vs : List Value) (o : Nat) (w : World), (w.setCells b o vs).heap.size = w.heap.size
  | [], _, _ => rfl
  | v :: r, o, w => by rw [World.setCells, setCells_size b r]; simp
theorem setCells_os (b : Nat) : ∀ (vs : List Value) (o : Nat) (w : World), (w.setCells b o vs).os = w.os ∧ (w.setCells b o vs).tape = w.tape ∧ (w.setCells b o vs).output = w.output
  | [], _, _ => ⟨rfl, rfl, rfl⟩
  | v :: r, o, w => by rw [World.setCells]; exact setCells_os b r _ _
theorem setCells_block (b x : Nat) (hx : x ≠ b) : ∀ (vs : List Value) (o : Nat) (w : World), (w.setCells b o vs).heap[x]? = w.heap[x]?
  | [], _, _ => rfl
  | v :: r, o, w => by rw [World.setCells, setCells_block b x hx r, heap_setCell_other _ _ _ _ hx]

theorem Fr.setCells (own : Nat → Nat → Prop) (w : World) (b o : Nat) (vs : List Value) (ho : ∀ j, j < vs.length → own b (o + j)) : Fr own w (w.setCells b o vs) := by
  obtain ⟨h1, h2, h3⟩ := setCells_os b vs o w
  refine ⟨h1, h2, h3, Nat.le_of_eq (setCells_size b vs o w).symm, fun x hx hn => ?_, fun x p hx hn => ?_, fun x p hx hn => World.frozen?_setCells b vs o w _⟩
  · cases vs with
    | nil => rfl
    | cons v r => exact setCells_block b x (fun e => hn o (e ▸ by simpa using ho 0 (by simp))) _ _ _
  · refine World.cell?_setCells_out b vs o w _ (fun e1 _ => ?_)
    dsimp only at e1 ⊢
    subst e1
    rcases Nat.lt_or_ge p o with h | h
    · exact .inl h
    · rcases Nat.lt_or_ge p (o + vs.length) with h' | h'
      · exact absurd (by have := ho (p - o) (by omega); rwa [show o + (p - o) = p by omega] at this) hn
      · exact .inr h'

/-- How a list of objects stands in a world. -/
structure Rel (I : Imm) (m : List Loc) (h : List Ob) (w : World) : Prop where
  len : m.length = h.length
  imm : ∀ b o z, I b o = some z → w.cell? ⟨b, o, none⟩ = some z
  ob : ∀ (i : Nat) x l, h[i]? = some x → m[i]? = some l → ObRel I m w x l
  sep : ∀ i j b o, i ≠ j → owns m h i b o → ¬ owns m h j b o
  immsep : ∀ b o, Owned m h b o → I b o = none

theorem cell_lt {w : World} {b o : Nat} {z : Value} (h : w.cell? ⟨b, o, none⟩ = some z) : b < w.heap.size := by
  unfold World.cell? at h
  rcases Nat.lt_or_ge b w.heap.size with hb | hb
  · exact hb
  · simp [Array.getElem?_eq_none hb] at h

theorem RowRel.keep {R R' : A → Value → Prop} {own : Nat → Nat → Prop} {w w' : World} {l : Loc} {xs : List A} (h : RowRel R w l xs) (f : Fr own w w') (hn : ∀ o, ¬ own l.blk o) (hR : ∀ x y, R x y → R' x y) : RowRel R' w' l xs :=
  ⟨Nat.lt_of_lt_of_le h.lt f.size, h.fits, fun j hj => by rw [f.cell _ _ h.lt (hn _)]; exact h.there j hj, fun j hj => by rw [f.frozen _ _ h.lt (hn _)]; exact h.free j hj,
    fun c e fz hc => h.mark c e fz (by rw [← f.block _ h.lt hn]; exact hc),
    fun j x y hx hy => by
      rw [f.cell _ _ h.lt (hn _)] at hy
      exact hR _ _ (h.holds j x y hx hy)⟩

/-- An object that a step does not write. -/
theorem ObRel.keep {I I' : Imm} {m m' : List Loc} {own : Nat → Nat → Prop} {w w' : World} {x : Ob} {l : Loc} (h : ObRel I m w x l) (hI : ILe I I') (hm : MLe m m') (f : Fr own w w')
    (hn : ∀ b o, x.at l b o → ¬ own b o) : ObRel I' m' w' x l := by
  cases x with
  | cells xs => exact RowRel.keep (R' := VRel I' m') h f (fun o => hn _ o rfl) (fun _ _ hv => hv.mono hI hm)
  | row xs => exact RowRel.keep (R' := FRel I') h f (fun o => hn _ o rfl) (fun _ _ hv => hv.mono hI)
  | ro xs => exact ⟨Nat.lt_of_lt_of_le h.1 f.size, fun j x hx => by obtain ⟨z, hz, hf⟩ := h.2 j x hx; exact ⟨z, hI _ _ _ hz, hf.mono hI⟩⟩
  | map es =>
    obtain ⟨es', clock, hb, hl, he⟩ := h
    have hlt : l.blk < w.heap.size := (Array.getElem?_eq_some_iff.1 hb).1
    exact ⟨es', clock, by rw [f.block _ hlt (fun o => hn _ o rfl)]; exact hb, hl, fun j x y hx hy => ⟨(he j x y hx hy).1.mono hI hm, (he j x y hx hy).2.mono hI hm⟩⟩
  | dead => trivial

theorem Rel.owned_lt {I : Imm} {m : List Loc} {h : List Ob} {w : World} (r : Rel I m h w) {b o : Nat} (ho : Owned m h b o) : b < w.heap.size := by
  obtain ⟨i, hi⟩ := ho
  obtain ⟨x, l, hx, hl, hh⟩ := hi
  have := r.ob i x l hx hl
  cases x with
  | cells xs => rw [show b = l.blk from hh]; exact (this : RowRel _ _ _ _).lt
  | row xs => rw [show b = l.blk from hh]; exact (this : RowRel _ _ _ _).lt
  | map es => obtain ⟨es', clock, hb, _⟩ := this; rw [show b = l.blk from hh]; exact (Array.getElem?_eq_some_iff.1 hb).1
  | ro xs => exact hh.elim
  | dead => exact hh.elim

/-- A world that turned elsewhere. -/
theorem Rel.frame {I : Imm} {m : List Loc} {h : List Ob} {w w' : World} (r : Rel I m h w) {own : Nat → Nat → Prop} (f : Fr own w w') (h1 : ∀ b o, Owned m h b o → ¬ own b o) (h2 : ∀ b o z, I b o = some z → ¬ own b o) : Rel I m h w' :=
  ⟨r.len, fun b o z hz => by rw [f.cell b o (cell_lt (r.imm b o z hz)) (h2 b o z hz)]; exact r.imm b o z hz,
    fun i x l hx hl => (r.ob i x l hx hl).keep (ILe.refl I) (MLe.refl m) f (fun b o hh => h1 b o ⟨i, x, l, hx, hl, hh⟩), r.sep, r.immsep⟩

/-- What a stretch of code does: the objects behind it stand in the world behind it; nothing else has turned; what is new lies in new blocks, or where objects lay. -/
structure Step (I : Imm) (m : List Loc) (h : List Ob) (w : World) (I' : Imm) (m' : List Loc) (h' : List Ob) (w' : World) : Prop where
  rel : Rel I' m' h' w'
  mle : MLe m m'
  ile : ILe I I'
  fr : Fr (Owned m h) w w'
  own : ∀ b o, Owned m' h' b o → Owned m h b o ∨ w.heap.size ≤ b
  immn : ∀ b o z, I' b o = some z → I b o = some z ∨ Owned m h b o ∨ w.heap.size ≤ b

theorem Step.refl {I : Imm} {m : List Loc} {h : List Ob} {w : World} (r : Rel I m h w) : Step I m h w I m h w :=
  ⟨r, MLe.refl m, ILe.refl I, Fr.refl _ _, fun _ _ h => .inl h, fun _ _ _ h => .inl h⟩

theorem Step.trans {I J K : Imm} {m n p : List Loc} {h k q : List Ob} {a b c : World} (s : Step I m h a J n k b) (t : Step J n k b K p q c) : Step I m h a K p q c :=
  ⟨t.rel, s.mle.trans t.mle, s.ile.trans t.ile, s.fr.trans t.fr s.own,
    fun x o hx => by rcases t.own x o hx with h1 | h1; exact s.own x o h1; exact .inr (Nat.le_trans s.fr.size h1),
    fun x o z hx => by
      rcases t.immn x o z hx with h1 | h1 | h1
      · exact s.immn x o z h1
      · exact .inr (s.own x o h1)
      · exact .inr (.inr (Nat.le_trans s.fr.size h1))⟩

theorem Step.drew {I : Imm} {m : List Loc} {h : List Ob} {w : World} (r : Rel I m h w) : Step I m h w I m h w.drew :=
  ⟨r.frame (Fr.drew (fun _ _ => False) w) (fun _ _ _ h => h) (fun _ _ _ _ h => h), MLe.refl m, ILe.refl I, Fr.drew _ _, fun _ _ h => .inl h, fun _ _ _ h => .inl h⟩

end Go.Flat
