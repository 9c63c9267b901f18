/-
  What the interpreter answers to an operation is what the model's operation comes to: operations that make memory or write it.
-/
import Derived.Test.YtldpbpgceplejaaFlatF
import Derived.Great.BuildSlice
namespace Go.Flat

section
variable {P : Program} {I : Imm} {m : List Loc} {h : List Ob} {w : World}

theorem one_sound {x : A} {y : Value} (hx : VRel I m x y) (h1 : one x = true) : y.oneCell' = true := by
  cases hx with
  | flat hf =>
    cases hf with
    | v => exact h1
    | lst => rfl
    | lst0 => rfl
    | lstN => rfl
    | fp => rfl
  | agg => cases h1
  | tup => cases h1
  | ptr => rfl
  | sl => rfl
  | sl0 => rfl
  | fn => rfl
  | bfn => rfl
  | mp => rfl
  | any => cases h1

theorem flat_one {x : A} (h : flat x = true) : one x = true := by cases x <;> first | exact h | rfl | cases h

theorem flat_sound {x : A} {y : Value} (hx : VRel I m x y) (h1 : flat x = true) : FRel I x y := by
  cases hx with
  | flat hf => exact hf
  | agg => cases h1
  | tup => cases h1
  | ptr => cases h1
  | sl => cases h1
  | sl0 => cases h1
  | fn => cases h1
  | bfn => cases h1
  | mp => cases h1
  | any => cases h1

theorem cells_one {y : Value} (h : y.oneCell' = true) : y.cells.toList = [y] := by cases y <;> first | rfl | cases h

theorem cells_sound {x : A} {y : Value} (hx : VRel I m x y) (h1 : (cellsOf x).all one = true) : Rels I m (cellsOf x) y.cells.toList ∧ ∀ z ∈ y.cells.toList, z.oneCell' = true := by
  have single : one x = true → cellsOf x = [x] → Rels I m (cellsOf x) y.cells.toList ∧ ∀ z ∈ y.cells.toList, z.oneCell' = true := by
    intro ho hc
    have hy := one_sound hx ho
    rw [hc, cells_one hy]
    refine ⟨⟨rfl, fun j a b ha hb => ?_⟩, fun z hz => by rw [List.mem_singleton.1 hz]; exact hy⟩
    cases j with
    | zero => simp at ha hb; subst ha; subst hb; exact hx
    | succ j => simp at ha
  cases x with
  | agg xs =>
    obtain ⟨ys, rfl, hr⟩ := agg_sound hx
    refine ⟨hr, fun z hz => ?_⟩
    obtain ⟨j, hj, rfl⟩ := List.getElem_of_mem hz
    have hjx : j < xs.length := by rw [hr.1]; exact hj
    exact one_sound (hr.2 j _ _ (List.getElem?_eq_getElem hjx) (List.getElem?_eq_getElem hj)) (List.all_eq_true.1 h1 _ (List.getElem_mem hjx))
  | v => exact single (by simpa [cellsOf] using h1) rfl
  | tup => exact single (by simpa [cellsOf] using h1) rfl
  | ptr => exact single (by simpa [cellsOf] using h1) rfl
  | sl => exact single (by simpa [cellsOf] using h1) rfl
  | lst => exact single (by simpa [cellsOf] using h1) rfl
  | fp => exact single (by simpa [cellsOf] using h1) rfl
  | fn => exact single (by simpa [cellsOf] using h1) rfl
  | mp => exact single (by simpa [cellsOf] using h1) rfl
  | any => exact single (by simpa [cellsOf] using h1) rfl

theorem foldl_put : ∀ (vs : List Value) (off k : Nat) (cs : Array Value), off + k + vs.length ≤ cs.size →
    ((vs.zipIdx k).foldl (fun cs (c, j) => cs.setIfInBounds (off + j) c) cs) = (cs.toList.take (off + k) ++ vs ++ cs.toList.drop (off + k + vs.length)).toArray
  | [], off, k, cs, _ => by simp
  | v :: vs, off, k, cs, hh => by
    simp only [List.length_cons] at hh
    rw [List.zipIdx_cons, List.foldl_cons, foldl_put vs off (k + 1) _ (by simp; omega)]
    congr 1
    have hlt : off + k < cs.toList.length := by simp; omega
    have e : (cs.setIfInBounds (off + k) v).toList = cs.toList.set (off + k) v := by simp
    rw [e, show off + (k + 1) = off + k + 1 by omega, List.length_cons]
    have e1 : (cs.toList.set (off + k) v).take (off + k + 1) = cs.toList.take (off + k) ++ [v] := by
      rw [List.take_succ_eq_append_getElem (by simpa using hlt), List.getElem_set_self, List.take_set_of_le (Nat.le_refl _)]
    have e2 : (cs.toList.set (off + k) v).drop (off + k + 1 + vs.length) = cs.toList.drop (off + k + (vs.length + 1)) := by
      rw [List.drop_set_of_lt (by omega)]
      congr 1; omega
    rw [e1, e2]
    simp

theorem rels_splice {xs : List A} {ys : List Value} {off : Nat} {a : List A} {b : List Value} (hr : Rels I m xs ys) (hs : Rels I m a b) (hl : off + a.length ≤ xs.length) : Rels I m (splice xs off a) (ys.take off ++ b ++ ys.drop (off + b.length)) := by
  have h1 := hr.1
  have h2 := hs.1
  refine ⟨by unfold splice; simp; omega, fun j x y hx hy => ?_⟩
  rcases splice_get (by omega) hx with ⟨g1, g2, g3⟩ | ⟨g1, g3⟩
  · rw [List.getElem?_append_left (by simp; omega), List.getElem?_append_right (by simp; omega)] at hy
    rw [show (ys.take off).length = off by simp; omega] at hy
    exact hs.2 _ _ _ g3 hy
  · rcases g1 with g1 | g1
    · rw [List.append_assoc, List.getElem?_append_left (by simp; omega), List.getElem?_take_of_lt g1] at hy
      exact hr.2 _ _ _ g3 hy
    · rw [List.getElem?_append_right (by simp; omega), List.getElem?_drop] at hy
      refine hr.2 _ _ _ g3 ?_
      rw [← hy]
      congr 1
      simp; omega

theorem sound_fill (place : Nat → Option (Nat × Nat)) : ∀ {parts : List (Nat × A)} {vals : List (Nat × Value)} {xs zs : List A} {cs : Array Value}, parts.length = vals.length →
    (∀ (j : Nat) p q, parts[j]? = some p → vals[j]? = some q → p.1 = q.1 ∧ VRel I m p.2 q.2) → Rels I m xs cs.toList → fillCells place xs parts = some zs →
    ∃ ds : Array Value, Instr.fill place cs vals = some ds ∧ Rels I m zs ds.toList ∧ zs.length = xs.length
  | [], vals, xs, zs, cs, hl, _, hr, he => by
    have : vals = [] := List.eq_nil_of_length_eq_zero hl.symm
    subst this
    obtain rfl := Option.some.inj he
    exact ⟨cs, rfl, hr, rfl⟩
  | (i, v) :: parts, vals, xs, zs, cs, hl, hp, hr, he => by
    cases vals with
    | nil => cases hl
    | cons q vals =>
      obtain ⟨i', u⟩ := q
      obtain ⟨hi, hv⟩ := hp 0 _ _ rfl rfl
      dsimp only at hi hv
      subst hi
      simp only [fillCells] at he
      split at he
      · cases he
      · rename_i off size hpl
        split at he
        · rename_i hc
          simp only [Bool.and_eq_true, decide_eq_true_eq] at hc
          obtain ⟨⟨c1, c2⟩, c3⟩ := hc
          obtain ⟨hcs, _⟩ := cells_sound hv c3
          have hul : u.cells.size = size := by rw [← c1, hcs.1]; simp
          have hsz : cs.size = xs.length := by have := hr.1; simpa using this.symm
          have hfold : (u.cells.zipIdx.foldl (fun cs (c, j) => cs.setIfInBounds (off + j) c) cs) = (cs.toList.take off ++ u.cells.toList ++ cs.toList.drop (off + u.cells.toList.length)).toArray := by
            have := foldl_put u.cells.toList off 0 cs (by simp; omega)
            rw [← Array.foldl_toList, Array.toList_zipIdx]
            simpa using this
          have hr' : Rels I m (splice xs off (cellsOf v)) ((u.cells.zipIdx.foldl (fun cs (c, j) => cs.setIfInBounds (off + j) c) cs).toList) := by
            rw [hfold]
            exact rels_splice hr hcs (by omega)
          obtain ⟨ds, h1, h2, h3⟩ := sound_fill place (by simpa using hl) (fun j p q hp' hq' => hp (j + 1) p q (by simpa using hp') (by simpa using hq')) hr' he
          refine ⟨ds, ?_, h2, ?_⟩
          · unfold Instr.fill
            rw [hpl]
            simp only
            rw [if_neg (by simp [hul]; omega)]
            exact h1
          · rw [h3, splice_length (by omega)]; omega
        · cases he

theorem rels_v (l : List Value) : Rels I m (l.map A.v) l := ⟨by simp, fun j x y hx hy => by
  rw [List.getElem?_map, hy] at hx
  simp at hx
  subst hx
  exact .flat (.v _)⟩

theorem mapM_places {fs : List Field} : ∀ {places : List (Nat × Nat)}, (fs.map fun f => (f.offset, f.type)).mapM (fun f => (tab P f.2).map fun i => (f.1, i.size)) = some places →
    fs.mapM (fun f => (P.info? f.type).map fun i => (f.offset, i.size)) = some places := by
  induction fs with
  | nil => intro places h; simpa using h
  | cons f fs ih =>
    intro places h
    simp only [List.map_cons, List.mapM_cons, Option.bind_eq_bind, Option.pure_def] at h ⊢
    cases ht : tab P f.type with
    | none => simp [ht] at h
    | some i =>
      obtain ⟨info, d, z, h1, h2, h3, h4, h5, h6, h7⟩ := tab_some ht
      cases hr : (fs.map fun f => (f.offset, f.type)).mapM (fun f => (tab P f.2).map fun i => (f.1, i.size)) with
      | none => simp [ht, hr] at h
      | some rest =>
        simp only [ht, hr, Option.map_some, Option.bind_some] at h
        rw [h1, ih hr, ← h, h4]
        rfl

theorem sound_build {t : TypeId} {parts : List (Nat × A)} {vals : Array (Nat × Value)} {z : A} (hl : parts.length = vals.size) (hp : ∀ (j : Nat) p q, parts[j]? = some p → vals.toList[j]? = some q → p.1 = q.1 ∧ VRel I m p.2 q.2)
    (he : evBuild (tab P) t parts = some z) : ∃ y, (Instr.build t vals).run P w = .ok y w ∧ VRel I m z y := by
  unfold evBuild at he
  split at he
  · rename_i size bytes zr fs eqs hi
    obtain ⟨info, d, z0, h1, h2, h3, h4, h5, h6, h7⟩ := tab_some hi
    obtain ⟨fa, rfl, rfl⟩ := D.of_struct h7
    split at he
    · rename_i places hpl
      cases hf : fillCells (fun i => places[i]?) (zr.map .v) parts with
      | none => simp [hf] at he
      | some xs =>
        simp only [hf, Option.map_some, Option.some.injEq] at he
        subst he
        obtain ⟨ds, hfl, hr, _⟩ := sound_fill (fun i => places[i]?) (vals := vals.toList) (cs := z0.cells) (by simpa using hl) hp (by rw [show zr = z0.cells.toList from h6]; exact rels_v _) hf
        refine ⟨.agg ds, run_build w t vals ds ?_, ?_⟩
        · simp only [Program.built, h1, h2, h3, mapM_places hpl]
          simpa using hfl
        · have := VRel.agg (I := I) (m := m) xs ds.toList hr.1 hr.2
          simpa using this
    · cases he
  · rename_i size bytes zr n e eqs hi
    obtain ⟨info, d, z0, h1, h2, h3, h4, h5, h6, h7⟩ := tab_some hi
    obtain rfl := D.of_array h7
    split at he
    · rename_i ei hei
      obtain ⟨info', d', z', k1, k2, k3, k4, k5, k6, k7⟩ := tab_some hei
      cases hf : fillCells (fun i => some (i * ei.size, ei.size)) (zr.map .v) parts with
      | none => simp [hf] at he
      | some xs =>
        simp only [hf, Option.map_some, Option.some.injEq] at he
        subst he
        obtain ⟨ds, hfl, hr, _⟩ := sound_fill (fun i => some (i * ei.size, ei.size)) (vals := vals.toList) (cs := z0.cells) (by simpa using hl) hp (by rw [show zr = z0.cells.toList from h6]; exact rels_v _) hf
        refine ⟨.agg ds, run_build w t vals ds ?_, ?_⟩
        · simp only [Program.built, h1, h2, h3, k1]
          rw [k4] at hfl
          exact hfl
        · have := VRel.agg (I := I) (m := m) xs ds.toList hr.1 hr.2
          simpa using this
    · cases he
  · cases he

theorem rep_length (z : List A) : ∀ n, (rep z n).length = n * z.length
  | 0 => by simp [rep]
  | n + 1 => by simp [rep, rep_length z n, Nat.add_mul]; omega

theorem rep_get (z : List A) : ∀ (n j : Nat), j < n * z.length → (rep z n)[j]? = z[j % z.length]?
  | 0, j, hj => by omega
  | n + 1, j, hj => by
    rw [Nat.add_mul, Nat.one_mul] at hj
    simp only [rep]
    rcases Nat.lt_or_ge j z.length with h | h
    · rw [List.getElem?_append_left h, Nat.mod_eq_of_lt h]
    · rw [List.getElem?_append_right h, rep_get z n _ (by omega), Nat.mod_eq_sub_mod h]

theorem rels_rep (z : Array Value) (n : Nat) (hz : 0 < z.size) : Rels I m (rep (z.toList.map A.v) n) ((Array.range (n * z.size)).map (z[· % z.size]!)).toList := by
  refine ⟨by simp [rep_length], fun j x y hx hy => ?_⟩
  have hj : j < n * z.size := by have := (List.getElem?_eq_some_iff.1 hx).1; simpa [rep_length] using this
  rw [rep_get _ _ _ (by simpa using hj)] at hx
  have hlt : j % z.size < z.size := Nat.mod_lt _ hz
  simp [hj, hlt] at hx hy
  subst hx; subst hy
  exact .flat (.v _)

/-- A new variable. -/
theorem sound_newOb (r : Rel I m h w) {arr : Bool} {xs : List A} {c : Array Value} {z : A} {h' : List Ob} (e : TypeId) (hr : Rels I m xs c.toList) (he : newOb arr xs h = some (z, h')) :
    ∃ m', Step I m h w I m' h' (w.alloc (.cells c e)) ∧ VRel I m' z (.pointer (some ⟨w.heap.size, 0, none⟩)) := by
  have hlen : xs.length = c.size := by have := hr.1; simpa using this
  have hv : VRel I (m ++ [⟨w.heap.size, 0, c.size⟩]) (.ptr h.length 0) (.pointer (some ⟨w.heap.size, 0, none⟩)) :=
    .ptr h.length 0 ⟨w.heap.size, 0, c.size⟩ (by rw [← r.len]; simp)
  unfold newOb at he
  split at he
  · split at he
    · rename_i hall
      obtain ⟨rfl, rfl⟩ := Prod.mk.inj (Option.some.inj he)
      refine ⟨_, Step.new_row r xs c e (0, 0) (.inl rfl) (by omega) (fun j x y hx hy => ?_), hv⟩
      exact flat_sound (hr.2 j x y hx (by simpa using hy)) (List.all_eq_true.1 hall _ (List.mem_of_getElem? hx))
    · cases he
  · split at he
    · rename_i hall
      obtain ⟨rfl, rfl⟩ := Prod.mk.inj (Option.some.inj he)
      exact ⟨_, Step.new_cells r xs c e (by omega) (fun j x y hx hy => hr.2 j x y hx (by simpa using hy)), hv⟩
    · cases he

theorem sound_alloc (r : Rel I m h w) {t : TypeId} {z : A} {h' : List Ob} (he : evAlloc (tab P) t h = some (z, h')) :
    ∃ m' y w', (Instr.alloc t true (.tuple #[])).run P w = .ok y w' ∧ Step I m h w I m' h' w' ∧ VRel I m' z y := by
  unfold evAlloc at he
  split at he
  · rename_i i hi
    obtain ⟨info, d, z0, h1, h2, h3, h4, h5, h6, h7⟩ := tab_some hi
    obtain ⟨m', hs, hv⟩ := sound_newOb r (c := z0.cells) t (by rw [h6]; exact rels_v _) he
    refine ⟨m', _, _, ?_, hs, hv⟩
    simp [Instr.alloc, zeroValue, rt w h1, h3, newVar, newRow]
  · cases he

theorem sound_box (r : Rel I m h w) {t : TypeId} {x z : A} {y : Value} {h' : List Ob} (hx : VRel I m x y) (he : evBox (tab P) t x h = some (z, h')) :
    ∃ m' u w', (Instr.box t y).run P w = .ok u w' ∧ Step I m h w I m' h' w' ∧ VRel I m' z u := by
  unfold evBox at he
  split at he
  · rename_i i hi
    have hall : (cellsOf x).all one = true := by
      unfold newOb at he
      split at he
      · split at he
        · rename_i hall
          exact List.all_eq_true.2 fun a ha => flat_one (List.all_eq_true.1 hall a ha)
        · cases he
      · split at he
        · rename_i hall
          exact hall
        · cases he
    obtain ⟨m', hs, hv⟩ := sound_newOb r (c := y.cells) t (cells_sound hx hall).1 he
    refine ⟨m', _, _, ?_, hs, hv⟩
    simp [Instr.box, newVar, newRow]
  · cases he

theorem sound_buildSlice (r : Rel I m h w) {t : TypeId} {len : Nat} {parts : List (Nat × A)} {vals : Array (Nat × Value)} {z : A} {h' : List Ob} (hl : parts.length = vals.size) (hp : ∀ (j : Nat) p q, parts[j]? = some p → vals.toList[j]? = some q → p.1 = q.1 ∧ VRel I m p.2 q.2)
    (he : evBuildSlice (tab P) t len parts h = some (z, h')) : ∃ m' u w', (Instr.buildSlice t len vals).run P w = .ok u w' ∧ Step I m h w I m' h' w' ∧ VRel I m' z u := by
  unfold evBuildSlice at he
  split at he
  · rename_i size bytes zr e eqs hi
    obtain ⟨info, d, z0, h1, h2, h3, h4, h5, h6, h7⟩ := tab_some hi
    obtain rfl := D.of_slice h7
    split at he
    · rename_i ei hei
      obtain ⟨info', d', z', k1, k2, k3, k4, k5, k6, k7⟩ := tab_some hei
      split at he
      · rename_i hb
        simp only [Bool.and_eq_true, decide_eq_true_eq] at hb
        split at he
        · rename_i xs hf
          obtain ⟨rfl, rfl⟩ := Prod.mk.inj (Option.some.inj he)
          have hmaxl : maxLen = 9223372036854775807 := rfl
          have hlenb : len ≤ 16777216 := Nat.le_trans (Nat.le_mul_of_pos_right len hb.1.2) hb.1.1
          have fin : ∀ c : Array Value, Rels I m xs c.toList → c.size = len * ei.size → (Instr.buildSlice t len vals).run P w = .ok (.slice (some ⟨w.heap.size, 0, none⟩) len len) (w.alloc (.cells c e)) →
              ∃ m' u w', (Instr.buildSlice t len vals).run P w = .ok u w' ∧ Step I m h w I m' (h ++ [if xs.all flat then .row xs else .cells xs]) w' ∧ VRel I m' (.sl h.length 0 len ei.size) u := by
            intro c hr hcs hrun
            have hxl : xs.length = c.size := by have := hr.1; simpa using this
            have hv : VRel I (m ++ [⟨w.heap.size, 0, c.size⟩]) (.sl h.length 0 len ei.size) (.slice (some ⟨w.heap.size, 0, none⟩) len len) :=
              .sl h.length 0 len ei.size len ⟨w.heap.size, 0, c.size⟩ (by rw [← r.len]; simp) (Nat.le_refl _) (by omega) (by dsimp only; omega)
            split
            · rename_i hall
              exact ⟨_, _, _, hrun, Step.new_row r xs c e (0, 0) (.inl rfl) (by omega) (fun j x y hx hy => flat_sound (hr.2 j x y hx (by simpa using hy)) (List.all_eq_true.1 hall _ (List.mem_of_getElem? hx))), hv⟩
            · exact ⟨_, _, _, hrun, Step.new_cells r xs c e (by omega) (fun j x y hx hy => hr.2 j x y hx (by simpa using hy)), hv⟩
          by_cases hz : len = 0
          · subst hz
            obtain ⟨ds, hfl, hr, hlen⟩ := sound_fill (fun i => some (i * ei.size, ei.size)) (vals := vals.toList) (cs := #[]) (by simpa using hl) hp ⟨rfl, fun j x y hx _ => by simp [rep] at hx⟩ hf
            rw [k4] at hfl
            have hds : ds.size = 0 := by have := hr.1; rw [hlen] at this; simpa [rep] using this.symm
            refine fin ds hr (by omega) ?_
            have e0 : (Array.range (0 * info'.size)).map ((#[] : Array Value)[· % (#[] : Array Value).size]!) = #[] := by simp
            have hle : ¬ (0 : Nat) > 2 ^ 24 := by omega
            rw [Nat.zero_mul] at e0
            simp only [Instr.buildSlice, Sem.run_bind, run_underlying h2, sizeOf, rt w k1, Result.andThen_ok, Sem.run_pure, Nat.zero_mul, hle, if_false, if_true, e0, hfl]
            rfl
          · have hpos : 0 < len * ei.size := Nat.mul_pos (by omega) hb.1.2
            have hzs : z'.cells.size = ei.size := by have := hb.2; rw [k6] at this; simpa using this
            · have hrep : Rels I m (rep (ei.zero.map .v) len) ((Array.range (len * ei.size)).map (z'.cells[· % z'.cells.size]!)).toList := by
                rw [k6, ← hzs]; exact rels_rep z'.cells len (by omega)
              obtain ⟨ds, hfl, hr, hlen⟩ := sound_fill (fun i => some (i * ei.size, ei.size)) (vals := vals.toList) (by simpa using hl) hp hrep hf
              have hds : ds.size = len * ei.size := by have := hr.1; rw [hlen, rep_length, k6] at this; simp [hzs] at this; omega
              refine fin ds hr hds ?_
              rw [k4] at hfl hb hpos
              exact run_buildSlice w t e len vals ds info' z' h2 k1 k3 (by omega) (by omega) hfl
        · cases he
      · cases he
    · cases he
  · cases he


/-- Cells written through a pointer. -/
theorem sound_putCells (r : Rel I m h w) {p : A} {y : Value} {news : List A} {ys : List Value} {h' : List Ob} (hp : VRel I m p y) (hr : Rels I m news ys) (h1 : ∀ z ∈ ys, z.oneCell' = true) (he : putCells h p news = some h') :
    ∃ b o, y = .pointer (some ⟨b, o, none⟩) ∧ (storeCells ⟨b, o, none⟩ ys).run P w = .ok () (w.setCells b o ys) ∧ Step I m h w I m h' (w.setCells b o ys) := by
  unfold putCells at he
  split at he
  · rename_i i off
    cases hp with
    | flat hf => cases hf
    | ptr _ _ l hl =>
      have run : ∀ (R : A → Value → Prop) (xs : List A), RowRel R w l xs → off + news.length ≤ xs.length → (storeCells ⟨l.blk, l.off + off, none⟩ ys).run P w = .ok () (w.setCells l.blk (l.off + off) ys) := by
        intro R xs rr hle
        have hyl := hr.1
        have := run_storeCells_cells (P := P) l.blk (l.off + off) ys 0 w (fun j hj => by
          rw [Nat.add_zero, Nat.add_assoc]; exact rr.there _ (by have := rr.fits; omega)) (fun j hj => by
          rw [Nat.add_zero, Nat.add_assoc]; exact rr.free _ (by have := rr.fits; omega)) h1
        simpa using this
      split at he
      · rename_i xs hx
        have rr : RowRel (VRel I m) w l xs := r.ob i _ l hx hl
        split at he
        · rename_i hc
          simp only [Bool.and_eq_true, decide_eq_true_eq] at hc
          obtain rfl := Option.some.inj he
          have hyl := hr.1
          exact ⟨_, _, rfl, run _ xs rr hc.1, Step.write_cells r hx hl off news ys hyl (by omega) (by have := rr.fits; omega) (fun k x y hx hy => hr.2 k x y hx hy)⟩
        · cases he
      · rename_i xs hx
        have rr : RowRel (FRel I) w l xs := r.ob i _ l hx hl
        split at he
        · rename_i hc
          simp only [Bool.and_eq_true, decide_eq_true_eq] at hc
          obtain rfl := Option.some.inj he
          have hyl := hr.1
          exact ⟨_, _, rfl, run _ xs rr hc.1, Step.write_row r hx hl off news ys hyl (by omega) (by have := rr.fits; omega) (fun k x y hx hy => flat_sound (hr.2 k x y hx hy) (List.all_eq_true.1 hc.2 _ (List.mem_of_getElem? hx)))⟩
        · cases he
      · cases he
  · cases he

theorem putCells_one {p : A} {news : List A} {h' : List Ob} (he : putCells h p news = some h') : news.all one = true := by
  unfold putCells at he
  split at he
  · split at he
    · split at he
      · rename_i hc; simp only [Bool.and_eq_true] at hc; exact hc.2
      · cases he
    · split at he
      · rename_i hc; simp only [Bool.and_eq_true] at hc; exact List.all_eq_true.2 fun a ha => flat_one (List.all_eq_true.1 hc.2 a ha)
      · cases he
    · cases he
  · cases he

theorem sound_store (r : Rel I m h w) {t : TypeId} {p x : A} {y z : Value} {h' : List Ob} (hp : VRel I m p y) (hx : VRel I m x z) (he : evStore (tab P) t p x h = some h') :
    ∃ w', (Instr.storeAt t y z).run P w = .ok () w' ∧ Step I m h w I m h' w' := by
  unfold evStore at he
  split at he
  · rename_i i hi
    obtain ⟨info, d, z0, h1, h2, h3, h4, h5, h6, h7⟩ := tab_some hi
    split at he
    · rename_i hlen
      obtain ⟨hcs, hone⟩ := cells_sound hx (putCells_one he)
      obtain ⟨b, o, rfl, hrun, hs⟩ := sound_putCells (P := P) r hp hcs hone he
      refine ⟨_, ?_, hs⟩
      have hsz : z.cells.size = info.size := by rw [← h4, ← hlen, hcs.1]; simp
      simp only [Instr.storeAt, Instr.sureAddr, storeVar, Sem.run_bind, Sem.run_pure, Result.andThen_ok, sizeOf, rt w h1, hsz, ne_eq, not_true_eq_false, if_false, hrun]
    · cases he
  · cases he

theorem sound_makeSlice (r : Rel I m h w) {t : TypeId} {a b z : A} {y u : Value} {h' : List Ob} (ha : VRel I m a y) (hb : VRel I m b u) (he : evMakeSlice (tab P) t a b h = some (z, h')) :
    ∃ m' q w', (Instr.makeSlice t y u).run P w = .ok q w' ∧ Step I m h w I m' h' w' ∧ VRel I m' z q := by
  unfold evMakeSlice at he
  split at he
  · rename_i size bytes zr e eqs k l k' c hi hl hc
    obtain ⟨info, d, z0, h1, h2, h3, h4, h5, h6, h7⟩ := tab_some hi
    obtain rfl := D.of_slice h7
    obtain rfl := int?_sound ha hl
    obtain rfl := int?_sound hb hc
    split at he
    · rename_i ei hei
      obtain ⟨info', d', z', k1, k2, k3, k4, k5, k6, k7⟩ := tab_some hei
      split at he
      · rename_i hcnd
        simp only [Bool.and_eq_true, decide_eq_true_eq] at hcnd
        obtain ⟨⟨⟨⟨⟨⟨g1, g2⟩, g3⟩, g4⟩, g5⟩, g6⟩, g7⟩ := hcnd
        obtain ⟨rfl, rfl⟩ := Prod.mk.inj (Option.some.inj he)
        have hwl : IntKind.i64.wrap l = l := by rw [IntKind.wrap_i64]; omega
        have hwc : IntKind.i64.wrap c = c := by rw [IntKind.wrap_i64]; omega
        have hzs : z'.cells.size = ei.size := by rw [k6] at g6; simpa using g6
        obtain ⟨cn, rfl⟩ := Int.eq_ofNat_of_zero_le (show 0 ≤ c by omega)
        obtain ⟨ln, rfl⟩ := Int.eq_ofNat_of_zero_le g1
        have hr : Rels I m (rep (ei.zero.map .v) cn) ((Array.range (cn * ei.size)).map (z'.cells[· % z'.cells.size]!)).toList := by
          rw [k6, ← hzs]; exact rels_rep z'.cells cn (by omega)
        have hmaxl : maxLen = 9223372036854775807 := rfl
        generalize hC : (Array.range (cn * ei.size)).map (z'.cells[· % z'.cells.size]!) = C at hr
        have hCs : C.size = cn * ei.size := by rw [← hC]; simp
        have hrl : (rep (ei.zero.map A.v) cn).length = cn * ei.size := by rw [rep_length]; simp [g6]
        have hflat : ∀ (j : Nat) x, (rep (ei.zero.map A.v) cn)[j]? = some x → flat x = true := by
          intro j x hx
          have hj : j < cn * ei.size := by have := (List.getElem?_eq_some_iff.1 hx).1; omega
          rw [rep_get _ _ _ (by simp [g6]; exact hj)] at hx
          exact List.all_eq_true.1 g7 x (List.mem_of_getElem? hx)
        refine ⟨_, .slice (some ⟨w.heap.size, 0, none⟩) ln cn, w.alloc (.cells C e), ?_, Step.new_row r _ C e (0, 0) (.inl rfl) (by simp only [Int.toNat_natCast]; omega) (fun j x y hx hy => ?_),
          .sl h.length 0 _ ei.size cn ⟨w.heap.size, 0, C.size⟩ (by rw [← r.len]; simp) (by simp only [Int.toNat_natCast]; omega) (by omega) (by dsimp only; omega)⟩
        · have hbl : ¬ ((cn : Int) < 0) := by omega
          have hbb : ¬ ((info'.bytes : Int) * (cn : Int) > 2 ^ 48) := by
            rw [← k5]
            have : ((ei.bytes : Int) * (cn : Int)) = ((cn : Int) * (ei.bytes : Int)) := Int.mul_comm _ _
            omega
          have hnb : ¬ ((ln : Int) < 0) := by omega
          have hlc : ¬ ((ln : Int) > (cn : Int)) := by omega
          have hask : (askRoom (cn * info'.bytes)).run P w = .ok () w := by unfold askRoom; split <;> rfl
          simp only [Instr.makeSlice, Sem.run_bind, run_underlying h2, Result.andThen_ok, asInt, asIntOf, Sem.run_pure, rt w k1, hwl, hwc, hbl, hbb, hnb, hlc, decide_false, Bool.or_false, Bool.false_eq_true, if_false, Int.toNat_natCast, hask, sizeOf]
          by_cases hn : cn * info'.size = 0
          · have : C = #[] := by
              have : C.size = 0 := by rw [hCs, k4]; exact hn
              exact Array.eq_empty_of_size_eq_zero this
            subst this
            simp [hn, newRow]
            congr 2
            exact Array.eq_empty_of_size_eq_zero (by simp)
          · simp only [hn, if_false, zeroValue, Sem.run_bind, rt w k1, Result.andThen_ok, k3, Sem.run_pure]
            rw [k4] at hC
            rw [hC]
            rfl
        · simp only [Int.toNat_natCast] at hx
          exact flat_sound (hr.2 j x y hx (by simpa using hy)) (hflat j x hx)
      · cases he
    · cases he
  · cases he

end
end Go.Flat
