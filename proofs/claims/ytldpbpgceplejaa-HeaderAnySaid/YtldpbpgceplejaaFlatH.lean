/-
  What the interpreter answers to an operation is what the model's operation comes to: append, copy, conversions.
-/
import Derived.Test.YtldpbpgceplejaaFlatG
import Derived.Deep.AppendSrc
import Derived.Laws.IdiomStrings
import Derived.Laws.BytesArg
namespace Go.Flat

section
variable {P : Program} {I : Imm} {m : List Loc} {h : List Ob} {w : World}

theorem loc_of (r : Rel I m h w) {i : Nat} {x : Ob} (hx : h[i]? = some x) : ∃ l, m[i]? = some l :=
  ⟨m[i]'(by rw [r.len]; exact (List.getElem?_eq_some_iff.1 hx).1), List.getElem?_eq_getElem _⟩

theorem freeze_sound (r : Rel I m h w) {x y : A} {v : Value} {h' : List Ob} (hx : VRel I m x v) (he : freeze h x = some (y, h')) : ∃ I', Step I m h w I' m h' w ∧ FRel I' y v ∧ flat y = true := by
  unfold freeze at he
  split at he
  · rename_i i off n sz
    have main : ∀ (I' : Imm) (xs : List A), (∀ l, m[i]? = some l → ∀ (j : Nat) x, xs[j]? = some x → ∃ z, I' l.blk (l.off + j) = some z ∧ FRel I' x z) → FRel I' (.lst n ((xs.drop off).take (n * sz))) v := by
      intro I' xs hh
      cases hx with
      | flat hf => cases hf
      | sl _ _ _ _ cap l hl hn hc hext =>
        have hget : ∀ (j : Nat) c, ((xs.drop off).take (n * sz))[j]? = some c → ∃ z, I' l.blk (l.off + off + j) = some z ∧ FRel I' c z := by
          intro j c hj
          have hlt : j < n * sz := by have := (List.getElem?_eq_some_iff.1 hj).1; rw [List.length_take] at this; omega
          rw [List.getElem?_take_of_lt hlt, List.getElem?_drop] at hj
          rw [Nat.add_assoc]
          exact hh l hl _ _ hj
        refine .lst n cap l.blk (l.off + off) _ (fun j => (I' l.blk (l.off + off + j)).getD undef) hn hc (fun j c hj => ?_) (fun j c hj => ?_)
        · obtain ⟨z, hz, _⟩ := hget j c hj
          rw [hz]; rfl
        · obtain ⟨z, hz, hf⟩ := hget j c hj
          rw [hz]; exact hf
      | sl0 _ _ _ a => rw [Nat.zero_mul, List.take_zero]; exact .lst0 a 0 (Nat.zero_le _)
    split at he
    · rename_i xs hob
      split at he
      · obtain ⟨rfl, rfl⟩ := Prod.mk.inj (Option.some.inj he)
        obtain ⟨l, hl⟩ := loc_of r hob
        obtain ⟨hs, hcell⟩ := Step.freeze r hob hl
        refine ⟨_, hs, main _ xs (fun l' hl' j x hj => ?_), rfl⟩
        obtain rfl := Option.some.inj (hl.symm.trans hl')
        obtain ⟨z, hz, hf⟩ := hcell j x hj
        have hlt := (List.getElem?_eq_some_iff.1 hj).1
        exact ⟨z, by rw [if_pos ⟨rfl, by omega, by omega⟩]; exact hz, hf.mono hs.ile⟩
      · cases he
    · rename_i xs hob
      split at he
      · obtain ⟨rfl, rfl⟩ := Prod.mk.inj (Option.some.inj he)
        refine ⟨I, Step.refl r, main I xs (fun l hl j x hj => (r.ob i _ l hob hl).2 j x hj), rfl⟩
      · cases he
    · cases he
  · split at he
    · rename_i hfl
      obtain ⟨rfl, rfl⟩ := Prod.mk.inj (Option.some.inj he)
      exact ⟨I, Step.refl r, flat_sound hx hfl, hfl⟩
    · cases he

theorem freezeAll_sound : ∀ {xs ys : List A} {vs : List Value} {I : Imm} {h h' : List Ob}, Rel I m h w → Rels I m xs vs → freezeAll h xs = some (ys, h') →
    ∃ I', Step I m h w I' m h' w ∧ ys.length = vs.length ∧ (∀ (j : Nat) y v, ys[j]? = some y → vs[j]? = some v → FRel I' y v) ∧ ∀ y ∈ ys, flat y = true
  | [], ys, vs, I, h, h', r, hr, he => by
    obtain ⟨rfl, rfl⟩ := Prod.mk.inj (Option.some.inj he)
    exact ⟨I, Step.refl r, hr.1, fun j y v hy _ => by simp at hy, fun y hy => by cases hy⟩
  | x :: xs, ys, vs, I, h, h', r, hr, he => by
    cases vs with
    | nil => cases hr.1
    | cons v vs =>
      simp only [freezeAll] at he
      split at he
      · rename_i y h1 hf
        split at he
        · rename_i ys' h2 hfa
          obtain ⟨rfl, rfl⟩ := Prod.mk.inj (Option.some.inj he)
          obtain ⟨I1, s1, f1, fl1⟩ := freeze_sound r (hr.2 0 _ _ rfl rfl) hf
          have hr1 : Rels I1 m xs vs := ⟨by have := hr.1; simpa using this, fun j a b ha hb => (hr.2 (j + 1) a b (by simpa using ha) (by simpa using hb)).mono s1.ile (MLe.refl m)⟩
          obtain ⟨I2, s2, hl, f2, fl2⟩ := freezeAll_sound s1.rel hr1 hfa
          refine ⟨I2, s1.trans s2, by simp [hl], fun j a b ha hb => ?_, fun a ha => ?_⟩
          · cases j with
            | zero => simp at ha hb; subst ha; subst hb; exact f1.mono s2.ile
            | succ j => exact f2 j a b (by simpa using ha) (by simpa using hb)
          · rcases List.mem_cons.1 ha with rfl | ha
            · exact fl1
            · exact fl2 a ha
        · cases he
      · cases he

theorem rel_byteA (l : List UInt8) : Rels I m (l.map byteA) (l.map fun b => Value.int .u8 b.toNat) := ⟨by simp, fun j x y hx hy => by
  rw [List.getElem?_map] at hx hy
  cases hj : l[j]? with
  | none => simp [hj] at hx
  | some b => simp [hj] at hx hy; subst hx; subst hy; exact .flat (.v _)⟩

/-- A slice's cells. -/
theorem sliceCells_sound (r : Rel I m h w) {sz n : Nat} {x : A} {v : Value} {cs : List A} (hx : VRel I m x v) (he : sliceCells h sz x = some (n, cs)) :
    cs.length = n * sz ∧ ∃ vals : List Value, Rels I m cs vals ∧ ((v = .slice none 0 0 ∧ n = 0) ∨ ∃ a c, v = .slice (some a) n c ∧ ∀ (j : Nat) u, vals[j]? = some u → w.cell? (a.add j) = some u) := by
  unfold sliceCells at he
  split at he
  · obtain ⟨rfl, rfl⟩ := Prod.mk.inj (Option.some.inj he)
    exact ⟨by simp, [], ⟨rfl, fun j a b ha _ => by simp at ha⟩, .inl ⟨v_sound hx, rfl⟩⟩
  · rename_i k cs'
    split at he
    · rename_i hlen
      obtain ⟨rfl, rfl⟩ := Prod.mk.inj (Option.some.inj he)
      refine ⟨hlen, ?_⟩
      cases hx with
      | flat hf =>
        cases hf with
        | lst _ cap b o _ zs hn hc h1 h2 =>
          refine ⟨(List.range cs'.length).map zs, ⟨by simp, fun j a c ha hc' => ?_⟩, .inr ⟨_, _, rfl, fun j u hu => ?_⟩⟩
          · have hlt := (List.getElem?_eq_some_iff.1 ha).1
            rw [List.getElem?_map, List.getElem?_range hlt] at hc'
            simp at hc'
            exact .flat (hc' ▸ h2 j a ha)
          · have hlt : j < cs'.length := by have := (List.getElem?_eq_some_iff.1 hu).1; simpa using this
            rw [List.getElem?_map, List.getElem?_range hlt] at hu
            simp at hu
            rw [addr_add, ← hu]
            exact r.imm _ _ _ (h1 j _ (List.getElem?_eq_getElem hlt))
        | lst0 a cap hc => exact ⟨[], ⟨rfl, fun j a b ha _ => by simp at ha⟩, .inr ⟨a, cap, rfl, fun j u hu => by simp at hu⟩⟩
        | lstN => exact ⟨[], ⟨rfl, fun j a b ha _ => by simp at ha⟩, .inl ⟨rfl, rfl⟩⟩
    · cases he
  · rename_i i off k s
    split at he
    · rename_i hs
      subst hs
      cases hg : getCells h (.ptr i off) (k * s) with
      | none => simp [hg] at he
      | some cs' =>
        simp only [hg, Option.map_some, Option.some.injEq, Prod.mk.injEq] at he
        obtain ⟨rfl, rfl⟩ := he
        cases hx with
        | flat hf => cases hf
        | sl _ _ _ _ cap l hl hn hc hext =>
          obtain ⟨b, o, ys, e, hlen, hr, hcell⟩ := getCells_sound r (.ptr i off l hl) hg
          simp only [Value.pointer.injEq, Option.some.injEq, Addr.mk.injEq, and_true] at e
          obtain ⟨rfl, rfl⟩ := e
          exact ⟨hlen, ys, hr, .inr ⟨_, _, rfl, fun j u hu => by rw [addr_add]; exact hcell j u hu⟩⟩
        | sl0 _ _ _ a =>
          have h0 : cs' = [] := by
            unfold getCells at hg
            simp only at hg
            split at hg
            · split at hg
              · rw [Nat.zero_mul, List.take_zero] at hg; exact (Option.some.inj hg).symm
              · cases hg
            · cases hg
          subst h0
          exact ⟨by simp, [], ⟨rfl, fun j a b ha _ => by simp at ha⟩, .inr ⟨a, 0, rfl, fun j u hu => by simp at hu⟩⟩
    · cases he
  · cases he

/-- What is appended, or copied. -/
theorem source_sound (r : Rel I m h w) {sz n : Nat} {x : A} {v : Value} {cs : List A} {tx : TypeId} {d : TypeDesc} (hk : P.underlying tx = some d) (hx : VRel I m x v) (he : source (D.of d) h sz x = some (n, cs)) :
    ∃ vals : List Value, Rels I m cs vals ∧ cs.length = n * sz ∧ ((∀ u ∈ vals, u.oneCell' = true) → Src P sz tx v n vals w) ∧
      (∀ k, k ≤ n → (Builtin.firstCells sz k v).run P w = .ok (vals.take (k * sz)).toArray w) ∧ (Builtin.lenOf v).run P w = .ok n w := by
  unfold source at he
  split at he
  · rename_i s hd
    obtain rfl := D.of_string hd.symm
    split at he
    · rename_i hsz
      subst hsz
      obtain ⟨rfl, rfl⟩ := Prod.mk.inj (Option.some.inj he)
      obtain rfl := v_sound hx
      refine ⟨_, rel_byteA _, by simp, fun _ => Src.ofString w hk s, fun k hk => ?_, rfl⟩
      rw [Nat.mul_one]
      simp only [Builtin.firstCells, Sem.run_pure]
      congr 1
      apply Array.ext'
      simp [ByteArray.data_extract]
    · cases he
  · rename_i e hd
    obtain rfl := D.of_slice hd.symm
    obtain ⟨hl, vals, hr, hv⟩ := sliceCells_sound r hx he
    have hvl : vals.length = n * sz := by rw [← hr.1, hl]
    rcases hv with ⟨rfl, rfl⟩ | ⟨a, c, rfl, hcell⟩
    · have : vals = [] := List.eq_nil_of_length_eq_zero (by rw [hvl, Nat.zero_mul])
      subst this
      exact ⟨[], hr, hl, fun _ => Src.ofNil w hk 0, fun k _ => by rw [List.take_nil]; exact run_firstCells_none _ _ _ _ _, rfl⟩
    · refine ⟨vals, hr, hl, fun h1 => Src.ofSlice w hk a n c vals hvl hcell h1, fun k hkn => ?_, rfl⟩
      have hmul : k * sz ≤ n * sz := Nat.mul_le_mul_right _ hkn
      refine run_firstCells_some w sz k a n c _ (by rw [List.length_take]; omega) (fun j v hv => ?_)
      have hj : j < k * sz := by have := (List.getElem?_eq_some_iff.1 hv).1; rw [List.length_take] at this; omega
      rw [List.getElem?_take_of_lt hj] at hv
      exact hcell j v hv
  · cases he

theorem sliceElem_some {τ : Tab} {t : TypeId} {ei : Ty} (he : sliceElem τ t = some ei) : ∃ i e, τ t = some i ∧ i.desc = .slice e ∧ τ e = some ei := by
  unfold sliceElem at he
  split at he
  · exact ⟨_, _, by assumption, rfl, he⟩
  · cases he


theorem take_row {xs : List A} {off k : Nat} {j : Nat} {x : A} (hx : ((xs.drop off).take k)[j]? = some x) : j < k ∧ xs[off + j]? = some x := by
  have hlt : j < k := by have := (List.getElem?_eq_some_iff.1 hx).1; rw [List.length_take] at this; omega
  rw [List.getElem?_take_of_lt hlt, List.getElem?_drop] at hx
  exact ⟨hlt, hx⟩

theorem sound_append (r : Rel I m h w) {ts : Array TypeId} (ty : TypeId) {s x z : A} {y u : Value} {h' : List Ob} (hs : VRel I m s y) (hx : VRel I m x u) (he : evAppend (tab P) ts.toList s x h = some (z, h')) :
    ∃ I' m' q w', (Builtin.append_ ts ty #[y, u]).run P w = .ok q w' ∧ Step I m h w I' m' h' w' ∧ VRel I' m' z q := by
  unfold evAppend at he
  split at he
  · rename_i t t' hts
    obtain rfl : ts = #[t, t'] := by rw [← Array.toArray_toList (xs := ts), hts]
    split at he
    · rename_i ei ti hei hti
      obtain ⟨i0, e, g1, g2, g3⟩ := sliceElem_some hei
      obtain ⟨info, d, z0, h1, h2, h3, h4, h5, h6, h7⟩ := tab_some g1
      obtain rfl := D.of_slice (g2.symm.trans h7)
      obtain ⟨infoE, dE, zE, k1, k2, k3, k4, k5, k6, k7⟩ := tab_some g3
      obtain ⟨infoT, dT, zT, t1, t2, t3, t4, t5, t6, t7⟩ := tab_some hti
      rw [t7] at he
      split at he
      · rename_i mm news0 hsrc
        obtain ⟨vals, hvals, hlen0, hsrc', hfirst, hlenOf⟩ := source_sound r t2 hx hsrc
        split at he
        · rename_i news h1' hfz
          obtain ⟨I1, s1, hnl, hfr, hfl⟩ := freezeAll_sound r hvals hfz
          have hone : ∀ u ∈ vals, u.oneCell' = true := by
            intro u hu
            obtain ⟨j, hj, rfl⟩ := List.getElem_of_mem hu
            have hjn : j < news.length := by omega
            exact one_sound (I := I1) (m := m) (.flat (hfr j _ _ (List.getElem?_eq_getElem hjn) (List.getElem?_eq_getElem hj))) (flat_one (hfl _ (List.getElem_mem hjn)))
          have hS := hsrc' hone
          rw [k4] at hS
          have hvl : vals.length = mm * ei.size := by rw [← hvals.1, hlen0]
          have r1 := s1.rel
          have hmaxl : maxLen = 9223372036854775807 := rfl
          have newc : ∀ (olds : List A) (oldv : List Value) (cap : Nat) (n : Nat) (I1 : Imm) (w0 : World), olds.length = oldv.length → oldv.length = n * ei.size → ei.zero.length = ei.size → n + mm ≤ cap → (∀ (j : Nat) y v, news[j]? = some y → vals[j]? = some v → FRel I1 y v) →
              (∀ (j : Nat) a b, olds[j]? = some a → oldv[j]? = some b → FRel I1 a b) →
              ((oldv ++ vals).toArray ++ Builtin.zeroCells zE.cells (cap - (n + mm))).size = cap * ei.size ∧ (olds ++ news).length ≤ cap * ei.size ∧
              ∀ (j : Nat) a b, (olds ++ news)[j]? = some a → ((oldv ++ vals).toArray ++ Builtin.zeroCells zE.cells (cap - (n + mm)))[j]? = some b → FRel I1 a b := by
            intro olds oldv cap n I1 w0 e1 e2 e3 e4 e5 e6
            have hzs : zE.cells.size = ei.size := by rw [k6] at e3; simpa using e3
            have hmul : n * ei.size + mm * ei.size = (n + mm) * ei.size := by rw [Nat.add_mul]
            have hmul2 : (n + mm) * ei.size + (cap - (n + mm)) * ei.size = cap * ei.size := by rw [← Nat.add_mul]; congr 1; omega
            refine ⟨?_, ?_, ?_⟩
            · simp only [Array.size_append, List.size_toArray, List.length_append, size_zeroCells, hzs]; omega
            · simp only [List.length_append]; have := Nat.mul_le_mul_right ei.size e4; omega
            · intro j a b ha hb
              have hj : j < (olds ++ news).length := (List.getElem?_eq_some_iff.1 ha).1
              rw [List.length_append] at hj
              rw [Array.getElem?_append_left (by simp; omega), List.getElem?_toArray] at hb
              rcases Nat.lt_or_ge j olds.length with hlt | hge
              · rw [List.getElem?_append_left hlt] at ha
                rw [List.getElem?_append_left (by omega)] at hb
                exact e6 j a b ha hb
              · rw [List.getElem?_append_right hge] at ha
                rw [List.getElem?_append_right (by omega), ← e1] at hb
                exact e5 _ a b ha hb
          split at he
          · obtain rfl := v_sound hs
            split at he
            · rename_i hc
              simp only [Bool.and_eq_true, decide_eq_true_eq] at hc
              obtain ⟨⟨⟨c1, c2⟩, c3⟩, c4⟩ := hc
              split at he
              · rename_i hm0
                obtain ⟨rfl, rfl⟩ := Prod.mk.inj (Option.some.inj he)
                subst hm0
                refine ⟨I1, m, .slice none 0 0, w, ?_, s1, .flat (.v _)⟩
                rcases hS.kind with ⟨e', hk⟩ | hk <;> simp [Builtin.append_, run_underlying h2, run_underlying hk, sizeOf, rt w k1, hS.len, hS.cells]
              · rename_i hm0
                obtain ⟨rfl, rfl⟩ := Prod.mk.inj (Option.some.inj he)
                have hrun := run_append_grow_src (P := P) w t t' ty e infoE zE h2 k1 k3 none 0 0 [] (run_firstCells_none _ _ _ _ _) u mm vals hS (by omega) (by omega) (growslice_fits (by omega) (by rw [← k5, Nat.zero_add]; exact c1))
                have hcap := grownCap_ge w (0 + mm) 0 e
                have hcapm := grownCap_le_maxLen w (0 + mm) 0 e (by omega)
                generalize grownCap w (0 + mm) 0 e = cap at hrun hcap hcapm
                obtain ⟨q1, q2, q3⟩ := newc [] [] cap 0 I1 w rfl (by simp) c4 hcap hfr (fun j a b ha _ => by simp at ha)
                generalize hC : ((([] : List Value) ++ vals).toArray ++ Builtin.zeroCells zE.cells (cap - (0 + mm))) = C at hrun q1 q3
                have sd := Step.drew r1
                have sn := Step.new_row sd.rel news C e (0, 0) (.inl rfl) (by rw [q1]; simpa using q2) (fun j a b ha hb => q3 j a b (by simpa using ha) hb)
                refine ⟨I1, _, _, _, hrun, (s1.trans sd).trans sn, ?_⟩
                have : VRel I1 (m ++ [⟨w.drew.heap.size, 0, C.size⟩]) (.sl h1'.length 0 mm ei.size) (.slice (some ⟨w.drew.heap.size, 0, none⟩) mm cap) :=
                  .sl h1'.length 0 mm ei.size cap ⟨w.drew.heap.size, 0, C.size⟩ (by rw [← r1.len]; simp) (by omega) hcapm (by dsimp only; omega)
                simpa using this
            · cases he
          · rename_i i off n sz
            split at he
            · rename_i xs hob
              split at he
              · rename_i hc
                simp only [Bool.and_eq_true, decide_eq_true_eq] at hc
                obtain ⟨⟨⟨⟨⟨c1, c2⟩, c3⟩, c4⟩, c5⟩, c6⟩ := hc
                subst c4
                obtain ⟨l, hl⟩ := loc_of r1 hob
                have rr : RowRel (FRel I1) w l xs := r1.ob i _ l hob hl
                have hfits := rr.fits
                have hlt : i < h1'.length := (List.getElem?_eq_some_iff.1 hob).1
                split at he
                · rename_i hsh
                  obtain ⟨hfull, -⟩ := hsh
                  obtain ⟨rfl, rfl⟩ := Prod.mk.inj (Option.some.inj he)
                  have hdl : (xs.drop off).take (n * ei.size) = xs.drop off := List.take_of_length_le (by rw [List.length_drop]; omega)
                  have growF : ∀ (b : Addr) (cap : Nat), y = .slice (some b) n cap → cap < n + mm → (∀ (olds : List Value), olds.length = n * ei.size → (∀ (j : Nat) v, olds[j]? = some v → w.cell? ⟨l.blk, l.off + off + j, none⟩ = some v) → ∀ (j : Nat) v, olds[j]? = some v → w.cell? (b.add j) = some v) →
                      ∃ I' m' q w', (Builtin.append_ #[t, t'] ty #[y, u]).run P w = .ok q w' ∧ Step I m h w I' m' (h1'.set i (.ro xs) ++ [.ro (xs.drop off ++ news)]) w' ∧ VRel I' m' (.sl h1'.length 0 (n + mm) ei.size) q := by
                    intro b cap0 hy hg hold
                    subst hy
                    have hgl : getCells h1' (.ptr i off) (n * ei.size) = some ((xs.drop off).take (n * ei.size)) := by
                      unfold getCells; simp only [hob, Option.bind_some, Ob.list?]; rw [if_pos c1]
                    obtain ⟨b', o', olds, eq', hol, hor, hocell⟩ := getCells_sound r1 (.ptr i off l hl) hgl
                    simp only [Value.pointer.injEq, Option.some.injEq, Addr.mk.injEq, and_true] at eq'
                    obtain ⟨rfl, rfl⟩ := eq'
                    have holv : olds.length = n * ei.size := by rw [← hor.1, hol]
                    have hof : ∀ (j : Nat) a b, ((xs.drop off).take (n * ei.size))[j]? = some a → olds[j]? = some b → FRel I1 a b := fun j a b ha hb => by
                      obtain ⟨hj, ha'⟩ := take_row ha
                      have := hocell j b hb
                      rw [Nat.add_assoc] at this
                      exact rr.holds _ a b ha' this
                    have hrun := run_append_grow_src (P := P) w t t' ty e infoE zE h2 k1 k3 (some b) n cap0 olds (run_firstCells_some (P := P) w.drew infoE.size n b n cap0 olds (by rw [← k4]; exact holv) (fun j v hv => by rw [World.cell?_drew]; exact hold olds holv hocell j v hv)) u mm vals hS hg (by omega) (growslice_fits hg (by rw [← k5]; omega))
                    have hcap := grownCap_ge w (n + mm) cap0 e
                    have hcapm := grownCap_le_maxLen w (n + mm) cap0 e (by omega)
                    generalize grownCap w (n + mm) cap0 e = cap at hrun hcap hcapm
                    have sd := Step.drew r1
                    obtain ⟨sf, -⟩ := Step.freeze sd.rel hob hl
                    have sk := sd.trans sf
                    obtain ⟨q1, q2, q3⟩ := newc _ olds cap n _ w hor.1 holv c6 hcap (fun j y v h1 h2 => (hfr j y v h1 h2).mono sk.ile) (fun j a b h1 h2 => (hof j a b h1 h2).mono sk.ile)
                    generalize hC : ((olds ++ vals).toArray ++ Builtin.zeroCells zE.cells (cap - (n + mm))) = C at hrun q1 q3
                    have sn := Step.new_row sk.rel _ C e (0, 0) (.inl rfl) (by rw [q1]; exact q2) q3
                    have hm1 : m.length = h1'.length := by have := s1.rel.len; omega
                    obtain ⟨sg, -⟩ := Step.freeze (i := h1'.length) (xs := (xs.drop off).take (n * ei.size) ++ news) (l := ⟨w.drew.heap.size, 0, C.size⟩) sn.rel (by rw [List.getElem?_append_right (by simp)]; simp) (by rw [List.getElem?_append_right (by omega)]; simp [hm1])
                    have hset : (h1'.set i (.ro xs) ++ [Ob.row ((xs.drop off).take (n * ei.size) ++ news)]).set h1'.length (.ro ((xs.drop off).take (n * ei.size) ++ news)) = h1'.set i (.ro xs) ++ [Ob.ro (xs.drop off ++ news)] := by
                      rw [List.set_append_right _ _ (by simp)]
                      simp [hdl]
                    rw [hset] at sg
                    refine ⟨_, _, _, _, hrun, ((s1.trans sk).trans sn).trans sg, ?_⟩
                    exact .sl h1'.length 0 (n + mm) ei.size cap ⟨w.drew.heap.size, 0, C.size⟩ (by rw [← hm1]; simp) hcap hcapm (by dsimp only; omega)
                  cases hs with
                  | flat hf => cases hf
                  | sl _ _ _ _ cap l' hl' hn hcm hext =>
                    obtain rfl := Option.some.inj (hl.symm.trans hl')
                    by_cases hroom : n + mm ≤ cap
                    · have hmm : (n + mm) * ei.size ≤ cap * ei.size := Nat.mul_le_mul_right _ hroom
                      have hadd : (n + mm) * ei.size = n * ei.size + mm * ei.size := Nat.add_mul _ _ _
                      have hrun := run_append_room_src (P := P) w t t' ty e infoE h2 k1 l.blk (l.off + off) n cap u mm vals hS hroom
                        (fun j hj => by rw [← k4, show l.off + off + n * ei.size + j = l.off + (off + n * ei.size + j) by omega]; exact rr.there _ (by omega))
                        (fun j hj => by rw [← k4, show l.off + off + n * ei.size + j = l.off + (off + n * ei.size + j) by omega]; exact rr.free _ (by omega))
                      rw [← k4] at hrun
                      have sw := Step.write_row r1 hob hl (off + n * ei.size) news vals hnl (by omega) (by omega) hfr
                      rw [show l.off + (off + n * ei.size) = l.off + off + n * ei.size by omega] at sw
                      have hsp : splice xs (off + n * ei.size) news = xs ++ news := by
                        unfold splice
                        rw [hfull, List.take_of_length_le (Nat.le_refl _), List.drop_of_length_le (by omega), List.append_nil]
                      rw [hsp] at sw
                      obtain ⟨sf, -⟩ := Step.freeze (i := i) (xs := xs ++ news) sw.rel (by rw [List.getElem?_set, if_pos rfl, if_pos hlt]) hl
                      rw [List.set_set] at sf
                      have sm := Step.ro_more sf.rel (i := i) (xs := xs) (news := news) (by rw [List.getElem?_set, if_pos rfl, if_pos hlt]) hl off (l.ext - off) (by omega)
                      rw [List.set_set] at sm
                      refine ⟨_, _, _, _, hrun, ((s1.trans sw).trans sf).trans sm, ?_⟩
                      exact .sl h1'.length 0 (n + mm) ei.size cap ⟨l.blk, l.off + off, l.ext - off⟩ (by rw [← r1.len]; simp) hroom hcm (by dsimp only; omega)
                    · exact growF _ cap rfl (by omega) (fun olds _ hh j v hv => by rw [addr_add]; exact hh j v hv)
                  | sl0 _ _ _ a =>
                    by_cases hm0 : mm = 0
                    · subst hm0
                      have hn0 : news = [] := List.eq_nil_of_length_eq_zero (by rw [hnl, hvl, Nat.zero_mul])
                      subst hn0
                      obtain ⟨sf, -⟩ := Step.freeze r1 hob hl
                      have sm := Step.ro_more sf.rel (i := i) (xs := xs) (news := []) (by rw [List.getElem?_set, if_pos rfl, if_pos hlt, List.append_nil]) hl off (l.ext - off) (by omega)
                      rw [List.set_set] at sm
                      refine ⟨_, _, .slice (some a) 0 0, w, ?_, (s1.trans sf).trans sm, .sl0 _ _ _ a⟩
                      rcases hS.kind with ⟨e', hk⟩ | hk <;> simp [Builtin.append_, run_underlying h2, run_underlying hk, sizeOf, rt w k1, hS.len, hS.cells, List.eq_nil_of_length_eq_zero (show vals.length = 0 by rw [hvl, Nat.zero_mul]), storeCells]
                    · exact growF a 0 rfl (by omega) (fun olds ho hh j v hv => by
                        have : olds = [] := List.eq_nil_of_length_eq_zero (by rw [ho, Nat.zero_mul])
                        subst this
                        simp at hv)
                obtain ⟨rfl, rfl⟩ := Prod.mk.inj (Option.some.inj he)
                -- where there is no room
                have grow : ∀ (b : Addr) (cap : Nat), y = .slice (some b) n cap → cap < n + mm → (∀ (olds : List Value), olds.length = n * ei.size → (∀ (j : Nat) v, olds[j]? = some v → w.cell? ⟨l.blk, l.off + off + j, none⟩ = some v) → ∀ (j : Nat) v, olds[j]? = some v → w.cell? (b.add j) = some v) →
                    ∃ I' m' q w', (Builtin.append_ #[t, t'] ty #[y, u]).run P w = .ok q w' ∧ Step I m h w I' m' (h1'.set i .dead ++ [.row ((xs.drop off).take (n * ei.size) ++ news)]) w' ∧ VRel I' m' (.sl h1'.length 0 (n + mm) ei.size) q := by
                  intro b cap0 hy hg hold
                  subst hy
                  have hgl : getCells h1' (.ptr i off) (n * ei.size) = some ((xs.drop off).take (n * ei.size)) := by
                    unfold getCells; simp only [hob, Option.bind_some, Ob.list?]; rw [if_pos c1]
                  obtain ⟨b', o', olds, eq', hol, hor, hocell⟩ := getCells_sound r1 (.ptr i off l hl) hgl
                  simp only [Value.pointer.injEq, Option.some.injEq, Addr.mk.injEq, and_true] at eq'
                  obtain ⟨rfl, rfl⟩ := eq'
                  have holv : olds.length = n * ei.size := by rw [← hor.1, hol]
                  have hof : ∀ (j : Nat) a b, ((xs.drop off).take (n * ei.size))[j]? = some a → olds[j]? = some b → FRel I1 a b := fun j a b ha hb => by
                    obtain ⟨hj, ha'⟩ := take_row ha
                    have := hocell j b hb
                    rw [Nat.add_assoc] at this
                    exact rr.holds _ a b ha' this
                  have hrun := run_append_grow_src (P := P) w t t' ty e infoE zE h2 k1 k3 (some b) n cap0 olds (run_firstCells_some (P := P) w.drew infoE.size n b n cap0 olds (by rw [← k4]; exact holv) (fun j v hv => by rw [World.cell?_drew]; exact hold olds holv hocell j v hv)) u mm vals hS hg (by omega) (growslice_fits hg (by rw [← k5]; omega))
                  have hcap := grownCap_ge w (n + mm) cap0 e
                  have hcapm := grownCap_le_maxLen w (n + mm) cap0 e (by omega)
                  generalize grownCap w (n + mm) cap0 e = cap at hrun hcap hcapm
                  obtain ⟨q1, q2, q3⟩ := newc _ olds cap n I1 w hor.1 holv c6 hcap hfr hof
                  generalize hC : ((olds ++ vals).toArray ++ Builtin.zeroCells zE.cells (cap - (n + mm))) = C at hrun q1 q3
                  have sd := Step.drew r1
                  have sk := Step.kill sd.rel i
                  have sn := Step.new_row sk.rel _ C e (0, 0) (.inl rfl) (by rw [q1]; exact q2) q3
                  refine ⟨I1, _, _, _, hrun, ((s1.trans sd).trans sk).trans sn, ?_⟩
                  have : VRel I1 (m ++ [⟨w.drew.heap.size, 0, C.size⟩]) (.sl h1'.length 0 (n + mm) ei.size) (.slice (some ⟨w.drew.heap.size, 0, none⟩) (n + mm) cap) :=
                    .sl h1'.length 0 (n + mm) ei.size cap ⟨w.drew.heap.size, 0, C.size⟩ (by rw [← r1.len]; simp) hcap hcapm (by dsimp only; omega)
                  exact this
                cases hs with
                | flat hf => cases hf
                | sl _ _ _ _ cap l' hl' hn hcm hext =>
                  obtain rfl := Option.some.inj (hl.symm.trans hl')
                  by_cases hroom : n + mm ≤ cap
                  · have hmm : (n + mm) * ei.size ≤ cap * ei.size := Nat.mul_le_mul_right _ hroom
                    have hadd : (n + mm) * ei.size = n * ei.size + mm * ei.size := Nat.add_mul _ _ _
                    have hrun := run_append_room_src (P := P) w t t' ty e infoE h2 k1 l.blk (l.off + off) n cap u mm vals hS hroom
                      (fun j hj => by rw [← k4, show l.off + off + n * ei.size + j = l.off + (off + n * ei.size + j) by omega]; exact rr.there _ (by omega))
                      (fun j hj => by rw [← k4, show l.off + off + n * ei.size + j = l.off + (off + n * ei.size + j) by omega]; exact rr.free _ (by omega))
                    rw [← k4] at hrun
                    have sw := Step.write_row r1 hob hl (off + n * ei.size) news vals hnl (by omega) (by omega) hfr
                    rw [show l.off + (off + n * ei.size) = l.off + off + n * ei.size by omega] at sw
                    have sr := Step.reseat (ys := (xs.drop off).take (n * ei.size) ++ news) sw.rel (i := i) (xs := splice xs (off + n * ei.size) news) (by rw [List.getElem?_set, if_pos rfl, if_pos hlt]) hl off (by omega) (fun k y hk => by
                        have hsl : (splice xs (off + n * ei.size) news).take (off + n * ei.size + news.length) = xs.take (off + n * ei.size) ++ news := by
                          unfold splice
                          rw [List.take_left' (by simp; omega)]
                        have hy2 : (xs.take (off + n * ei.size) ++ news)[off + k]? = some y := by
                          have e1 : xs.take (off + n * ei.size) = xs.take off ++ (xs.drop off).take (n * ei.size) := by rw [← List.take_add]
                          rw [e1, List.append_assoc, List.getElem?_append_right (by simp; omega)]
                          rw [← hk]; congr 1; simp; omega
                        rw [← hsl] at hy2
                        have hlt2 : off + k < off + n * ei.size + news.length := by have := (List.getElem?_eq_some_iff.1 hy2).1; rw [List.length_take] at this; omega
                        rw [List.getElem?_take_of_lt hlt2] at hy2
                        exact hy2) (by simp only [List.length_append, List.length_take, List.length_drop]; omega)
                    rw [List.set_set] at sr
                    refine ⟨I1, _, _, _, hrun, (s1.trans sw).trans sr, ?_⟩
                    have : VRel I1 (m ++ [⟨l.blk, l.off + off, l.ext - off⟩]) (.sl h1'.length 0 (n + mm) ei.size) (.slice (some ⟨l.blk, l.off + off, none⟩) (n + mm) cap) :=
                      .sl h1'.length 0 (n + mm) ei.size cap ⟨l.blk, l.off + off, l.ext - off⟩ (by rw [← r1.len]; simp) hroom hcm (by dsimp only; omega)
                    exact this
                  · exact grow _ cap rfl (by omega) (fun olds _ hh j v hv => by rw [addr_add]; exact hh j v hv)
                | sl0 _ _ _ a =>
                  by_cases hm0 : mm = 0
                  · subst hm0
                    have hn0 : news = [] := List.eq_nil_of_length_eq_zero (by rw [hnl, hvl, Nat.zero_mul])
                    subst hn0
                    have sr := Step.reseat (ys := []) r1 hob hl off (by omega) (fun k y hk => by simp at hk) (by simp; omega)
                    refine ⟨I1, m ++ [⟨l.blk, l.off + off, l.ext - off⟩], .slice (some a) 0 0, w, ?_, s1.trans ?_, .sl0 _ _ _ a⟩
                    · rcases hS.kind with ⟨e', hk⟩ | hk <;> simp [Builtin.append_, run_underlying h2, run_underlying hk, sizeOf, rt w k1, hS.len, hS.cells, List.eq_nil_of_length_eq_zero (show vals.length = 0 by rw [hvl, Nat.zero_mul]), storeCells]
                    · simpa using sr
                  · exact grow a 0 rfl (by omega) (fun olds ho hh j v hv => by
                      have : olds = [] := List.eq_nil_of_length_eq_zero (by rw [ho, Nat.zero_mul])
                      subst this
                      simp at hv)
              · cases he
            · cases he
          · cases he
        · cases he
      · cases he
    · cases he
  · cases he


theorem sound_copy (r : Rel I m h w) {ts : Array TypeId} (ty : TypeId) {s x z : A} {y u : Value} {h' : List Ob} (hs : VRel I m s y) (hx : VRel I m x u) (he : evCopy (tab P) ts.toList s x h = some (z, h')) :
    ∃ q w', (Builtin.copy_ ts ty #[y, u]).run P w = .ok q w' ∧ Step I m h w I m h' w' ∧ VRel I m z q := by
  unfold evCopy at he
  split at he
  · rename_i t t' hts
    obtain rfl : ts = #[t, t'] := by rw [← Array.toArray_toList (xs := ts), hts]
    split at he
    · rename_i ei ti hei hti
      obtain ⟨i0, e, g1, g2, g3⟩ := sliceElem_some hei
      obtain ⟨info, d, z0, h1, h2, h3, h4, h5, h6, h7⟩ := tab_some g1
      obtain rfl := D.of_slice (g2.symm.trans h7)
      obtain ⟨infoE, dE, zE, k1, k2, k3, k4, k5, k6, k7⟩ := tab_some g3
      obtain ⟨infoT, dT, zT, t1, t2, t3, t4, t5, t6, t7⟩ := tab_some hti
      rw [t7] at he
      split at he
      · rename_i mm news i off n sz hsrc
        obtain ⟨vals, hvals, hlen0, hsrc', hfirst, hlenOf⟩ := source_sound r t2 hx hsrc
        split at he
        · rename_i hc
          simp only [Bool.and_eq_true, decide_eq_true_eq] at hc
          obtain ⟨rfl, hpos⟩ := hc
          cases hp : putCells h (.ptr i off) (news.take (min mm n * ei.size)) with
          | none => simp [hp] at he
          | some h2' =>
            simp only [hp, Option.map_some, Option.some.injEq, Prod.mk.injEq] at he
            obtain ⟨rfl, rfl⟩ := he
            have hmin : min mm n * ei.size ≤ mm * ei.size := Nat.mul_le_mul_right _ (Nat.min_le_left _ _)
            have hr' : Rels I m (news.take (min mm n * ei.size)) (vals.take (min mm n * ei.size)) := ⟨by simp [hvals.1], fun j a b ha hb => by
              have hj : j < min mm n * ei.size := by have := (List.getElem?_eq_some_iff.1 ha).1; rw [List.length_take] at this; omega
              rw [List.getElem?_take_of_lt hj] at ha hb
              exact hvals.2 j a b ha hb⟩
            have hone : ∀ u ∈ vals.take (min mm n * ei.size), u.oneCell' = true := by
              intro u hu
              obtain ⟨j, hj, rfl⟩ := List.getElem_of_mem hu
              have hjn : j < (news.take (min mm n * ei.size)).length := by rw [hr'.1]; exact hj
              exact one_sound (hr'.2 j _ _ (List.getElem?_eq_getElem hjn) (List.getElem?_eq_getElem hj)) (List.all_eq_true.1 (putCells_one hp) _ (List.getElem_mem hjn))
            have hvl : vals.length = mm * ei.size := by rw [← hvals.1, hlen0]
            have htl : (vals.take (min mm n * ei.size)).length = min mm n * ei.size := by rw [List.length_take]; omega
            obtain ⟨l, hl⟩ : ∃ l, m[i]? = some l := by
              unfold putCells at hp
              simp only at hp
              split at hp
              · rename_i xs hob; exact loc_of r hob
              · rename_i xs hob; exact loc_of r hob
              · cases hp
            obtain ⟨b, o, eq', hst, hstep⟩ := sound_putCells (P := P) r (.ptr i off l hl) hr' hone hp
            simp only [Value.pointer.injEq, Option.some.injEq, Addr.mk.injEq, and_true] at eq'
            obtain ⟨rfl, rfl⟩ := eq'
            have hf := hfirst (min mm n) (Nat.min_le_left _ _)
            rw [k4] at hf hst hstep
            cases hs with
            | flat hf => cases hf
            | sl _ _ _ _ cap l' hl' hn hcm hext =>
              obtain rfl := Option.some.inj (hl.symm.trans hl')
              refine ⟨_, _, ?_, hstep, .flat (.v _)⟩
              have hmin' : Nat.min mm n = min mm n := rfl
              simp only [Builtin.copy_, List.getElem?_toArray, List.getElem?_cons_zero, List.getElem?_cons_succ, Sem.run_bind, run_underlying h2, Result.andThen_ok, hlenOf, sizeOf, rt w k1, Sem.run_pure, hmin', hf, hst, goInt]
            | sl0 _ _ _ a =>
              have h0 : vals.take (min mm 0 * infoE.size) = [] := by simp
              rw [h0] at hf hstep
              refine ⟨_, w, ?_, by simpa [World.setCells] using hstep, .flat (.v _)⟩
              have hmin' : Nat.min mm 0 = min mm 0 := rfl
              simp only [Builtin.copy_, List.getElem?_toArray, List.getElem?_cons_zero, List.getElem?_cons_succ, Sem.run_bind, run_underlying h2, Result.andThen_ok, hlenOf, sizeOf, rt w k1, Sem.run_pure, hmin', hf, storeCells, goInt]
        · cases he
      · cases he
    · cases he
  · cases he

theorem sound_convert (r : Rel I m h w) {src dst : TypeId} {x z : A} {y : Value} {h' : List Ob} (hx : VRel I m x y) (he : evConvert (tab P) src dst x h = some (z, h')) :
    ∃ m' q w', (convert src dst y).run P w = .ok q w' ∧ Step I m h w I m' h' w' ∧ VRel I m' z q := by
  unfold evConvert at he
  split at he
  · rename_i si di hsi hdi
    obtain ⟨info, d, z0, h1, h2, h3, h4, h5, h6, h7⟩ := tab_some hsi
    obtain ⟨info', d', z0', k1, k2, k3, k4, k5, k6, k7⟩ := tab_some hdi
    split at he
    · rename_i ks kd hsd hdd
      obtain rfl := D.of_int (hdd.symm.trans k7)
      cases hi : int? x with
      | none => simp [hi] at he
      | some p =>
        obtain ⟨k, n⟩ := p
        simp only [hi, Option.map_some, Option.some.injEq, Prod.mk.injEq] at he
        obtain ⟨rfl, rfl⟩ := he
        obtain rfl := int?_sound hx hi
        exact ⟨m, _, w, by simp [convert, run_underlying h2, run_underlying k2, Conv.intToInt], Step.refl r, .flat (.v _)⟩
    · rename_i hsd hdd
      obtain rfl := D.of_string (hsd.symm.trans h7)
      obtain rfl := D.of_string (hdd.symm.trans k7)
      split at he
      · rename_i s
        obtain ⟨rfl, rfl⟩ := Prod.mk.inj (Option.some.inj he)
        obtain rfl := v_sound hx
        exact ⟨m, _, w, by simp [convert, run_underlying h2, run_underlying k2], Step.refl r, .flat (.v _)⟩
      · cases he
    · rename_i e hsd hdd
      obtain rfl := D.of_string (hsd.symm.trans h7)
      obtain rfl := D.of_slice (hdd.symm.trans k7)
      split at he
      · rename_i bytes zr eqs s he'
        obtain ⟨infoE, dE, zE, q1, q2, q3, q4, q5, q6, q7⟩ := tab_some he'
        obtain rfl := D.of_int q7
        split at he
        · rename_i hsz
          obtain ⟨rfl, rfl⟩ := Prod.mk.inj (Option.some.inj he)
          obtain rfl := v_sound hx
          have hmaxl : maxLen = 9223372036854775807 := rfl
          have hrun := run_bytes_of_string (P := P) w src dst e s h2 k2 q2
          have hcap := grownCap_ge w s.size 0 e
          have hcapm := grownCap_le_maxLen w s.size 0 e (by omega)
          generalize grownCap w s.size 0 e = cap at hrun hcap hcapm
          have hbs : (bytesRow s cap).size = cap := by unfold bytesRow; simp; have : s.data.size = s.size := rfl; omega
          have sd := Step.drew r
          have sn := Step.new_row sd.rel (s.data.toList.map byteA) (bytesRow s cap) e ((bytesRow s cap).size, (bytesRow s cap).size + 1) (.inr (Nat.le_refl _)) (by rw [hbs]; simp; have : s.data.size = s.size := rfl; omega) (fun j a b ha hb => by
            have hj : j < s.data.size := by have := (List.getElem?_eq_some_iff.1 ha).1; simpa using this
            rw [bytesRow_at s cap j hj] at hb
            rw [List.getElem?_map, Array.getElem?_toList, Array.getElem?_eq_getElem hj] at ha
            simp at ha hb
            subst ha; subst hb
            exact .v _)
          refine ⟨_, _, _, hrun, sd.trans sn, ?_⟩
          have : VRel I (m ++ [⟨w.drew.heap.size, 0, (bytesRow s cap).size⟩]) (.sl h.length 0 s.size 1) (.slice (some ⟨w.drew.heap.size, 0, none⟩) s.size cap) :=
            .sl h.length 0 s.size 1 cap ⟨w.drew.heap.size, 0, (bytesRow s cap).size⟩ (by rw [← r.len]; simp) hcap hcapm (by dsimp only; omega)
          exact this
        · cases he
      · cases he
    · rename_i e hsd hdd
      obtain rfl := D.of_slice (hsd.symm.trans h7)
      obtain rfl := D.of_string (hdd.symm.trans k7)
      split at he
      · rename_i bytes zr eqs he'
        obtain ⟨infoE, dE, zE, q1, q2, q3, q4, q5, q6, q7⟩ := tab_some he'
        obtain rfl := D.of_int q7
        cases hsc : sliceCells h 1 x with
        | none => simp [hsc] at he
        | some p =>
          obtain ⟨n, cs⟩ := p
          simp only [hsc, Option.bind_some] at he
          split at he
          · rename_i hall
            obtain ⟨rfl, rfl⟩ := Prod.mk.inj (Option.some.inj he)
            obtain ⟨hl, vals, hr, hv⟩ := sliceCells_sound r hx hsc
            rw [Nat.mul_one] at hl
            -- the bytes as whole numbers
            have hvals : vals = (cs.map fun a => match a with | .v (.int .u8 k) => k | _ => 0).map (Value.int .u8) := by
              apply List.ext_getElem?
              intro j
              rcases Nat.lt_or_ge j vals.length with hj | hj
              · have hj2 : j < cs.length := by rw [hr.1]; exact hj
                have e1 := hr.2 j _ _ (List.getElem?_eq_getElem hj2) (List.getElem?_eq_getElem hj)
                have hb := List.all_eq_true.1 hall _ (List.getElem_mem hj2)
                rw [List.getElem?_eq_getElem hj, List.getElem?_map, List.getElem?_map, List.getElem?_eq_getElem hj2]
                generalize cs[j] = a at e1 hb ⊢
                unfold isByte at hb
                split at hb
                · rw [v_sound e1]; rfl
                · cases hb
              · rw [List.getElem?_eq_none hj, List.getElem?_eq_none (by simp; have := hr.1; omega)]
            generalize hks : (cs.map fun a => match a with | .v (.int .u8 k) => k | _ => (0 : Int)) = ks at hvals
            have hkl : ks.length = n := by rw [← hks]; simpa using hl
            have hout : (cs.map byteVal).toArray = ((ks.map fun n => UInt8.ofNat n.toNat).toArray) := by
              rw [← hks, List.map_map]
              congr 1
              refine List.map_congr_left fun a ha => ?_
              have hb := List.all_eq_true.1 hall a ha
              unfold isByte at hb
              split at hb
              · rfl
              · cases hb
            rcases hv with ⟨rfl, rfl⟩ | ⟨a, c, rfl, hcell⟩
            · refine ⟨m, _, w, run_convert_bytes_nil w src e h2 q2 0 0 dst k2, Step.refl r, ?_⟩
              have : cs = [] := List.eq_nil_of_length_eq_zero hl
              subst this
              exact .flat (.v _)
            · refine ⟨m, _, w, ?_, Step.refl r, .flat (.v _)⟩
              have hlc := run_loadCells_list (P := P) w a vals hcell
              rw [hvals, List.length_map, hkl] at hlc
              rw [run_convert_bytes_string w src dst e _ n c h2 q2 k2, run_bytesToString w a n c ks hlc, foldl_push_bytes, hout]
              have : ByteArray.empty.data = #[] := rfl
              rw [this, Array.empty_append]
          · cases he
      · cases he
    · rename_i e e2 hsd hdd
      obtain rfl := D.of_slice (hsd.symm.trans h7)
      obtain rfl := D.of_slice (hdd.symm.trans k7)
      split at he
      · rename_i hsame
        subst hsame
        split at he
        · rename_i bytes zr eqs i off n sz he'
          obtain ⟨infoE, dE, zE, q1, q2, q3, q4, q5, q6, q7⟩ := tab_some he'
          obtain rfl := D.of_int q7
          split at he
          · rename_i hn
            split at he
            · rename_i xs hi
              obtain ⟨rfl, rfl⟩ := Prod.mk.inj (Option.some.inj he)
              obtain ⟨l, hl⟩ := loc_of r hi
              have hx0 := hx
              cases hx with
              | flat hf => cases hf
              | sl _ _ _ _ cap l' hl' hnc hc hext =>
                obtain rfl := Option.some.inj (hl.symm.trans hl')
                have e2e : e2 = e := by
                  have := h2.symm.trans k2
                  simp at this
                  exact this.symm
                subst e2e
                cases hob : w.heap[l.blk]? with
                | none => exact ⟨m, _, w, by simp [convert, run_underlying h2, run_underlying q2, markStringish, World.shape?, hob], Step.refl r, hx0⟩
                | some ob =>
                  cases ob with
                  | cells c et fz => exact ⟨m, _, _, by simp [convert, run_underlying h2, run_underlying q2, markStringish, World.shape?, hob], Step.marked r hi hl hob, hx0⟩
                  | _ => exact ⟨m, _, w, by simp [convert, run_underlying h2, run_underlying q2, markStringish, World.shape?, hob], Step.refl r, hx0⟩
              | sl0 => omega
            · cases he
          · cases he
        · cases he
      · cases he
    · cases he
  · cases he

end
end Go.Flat
