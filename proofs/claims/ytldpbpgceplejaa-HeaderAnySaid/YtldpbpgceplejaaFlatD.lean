/-
  What the interpreter answers to an operation is what the model's operation comes to: operations that only look.
-/
import Derived.Test.YtldpbpgceplejaaFlatC
namespace Go.Flat

def D.of : TypeDesc → D
  | .int k => .int k
  | .bool => .bool
  | .string => .string
  | .slice e => .slice e
  | .array n e => .array n e
  | .struct fs => .struct (fs.toList.map fun f => (f.offset, f.type))
  | .pointer e => .pointer e
  | .map k e => .map k e
  | _ => .other

/-- A type whose values may be held against each other part by part. -/
def partsEq (P : Program) (t : TypeId) : Bool :=
  !P.eqGuardType P.depth t &&
  match P.underlying t with
  | some (.struct fs) => !P.stoodInHeld t && fs.toList.all fun f => f.name != "_"
  | _ => true

/-- A program's types, as the interpreter asks of them. -/
def tab (P : Program) : Tab := fun t =>
  match P.info? t, P.underlying t with
  | some i, some d =>
    match i.zero with
    | some z => some ⟨i.size, i.bytes, z.cells.toList, D.of d, partsEq P t⟩
    | none => none
  | _, _ => none

theorem tab_some' {P : Program} {t : TypeId} {i : Ty} (h : tab P t = some i) : ∃ info d z, P.info? t = some info ∧ P.underlying t = some d ∧ info.zero = some z ∧ i.size = info.size ∧ i.bytes = info.bytes ∧ i.zero = z.cells.toList ∧ i.desc = D.of d ∧ i.eqs = partsEq P t := by
  unfold tab at h
  split at h
  · rename_i info d h1 h2
    split at h
    · rename_i z h3
      obtain rfl := Option.some.inj h
      exact ⟨info, d, z, h1, h2, h3, rfl, rfl, rfl, rfl, rfl⟩
    · cases h
  · cases h

theorem tab_some {P : Program} {t : TypeId} {i : Ty} (h : tab P t = some i) : ∃ info d z, P.info? t = some info ∧ P.underlying t = some d ∧ info.zero = some z ∧ i.size = info.size ∧ i.bytes = info.bytes ∧ i.zero = z.cells.toList ∧ i.desc = D.of d := by
  obtain ⟨info, d, z, h1, h2, h3, h4, h5, h6, h7, _⟩ := tab_some' h
  exact ⟨info, d, z, h1, h2, h3, h4, h5, h6, h7⟩

theorem D.of_int {d : TypeDesc} {k : IntKind} (h : D.int k = D.of d) : d = .int k := by cases d <;> simp [D.of] at h; rw [h]
theorem D.of_bool {d : TypeDesc} (h : D.bool = D.of d) : d = .bool := by cases d <;> simp [D.of] at h; rfl
theorem D.of_string {d : TypeDesc} (h : D.string = D.of d) : d = .string := by cases d <;> simp [D.of] at h; rfl
theorem D.of_slice {d : TypeDesc} {e : TypeId} (h : D.slice e = D.of d) : d = .slice e := by cases d <;> simp [D.of] at h; rw [h]
theorem D.of_array {d : TypeDesc} {n : Nat} {e : TypeId} (h : D.array n e = D.of d) : d = .array n e := by cases d <;> simp [D.of] at h; rw [h.1, h.2]
theorem D.of_pointer {d : TypeDesc} {e : TypeId} (h : D.pointer e = D.of d) : d = .pointer e := by cases d <;> simp [D.of] at h; rw [h]
theorem D.of_map {d : TypeDesc} {k e : TypeId} (h : D.map k e = D.of d) : d = .map k e := by cases d <;> simp [D.of] at h; rw [h.1, h.2]
theorem D.of_struct {d : TypeDesc} {l : List (Nat × TypeId)} (h : D.struct l = D.of d) : ∃ fs, d = .struct fs ∧ l = fs.toList.map fun f => (f.offset, f.type) := by cases d <;> simp [D.of] at h; exact ⟨_, rfl, h⟩

section
variable {P : Program} {I : Imm} {m : List Loc} {h : List Ob} {w : World}

/-- Values, one for one. -/
def Rels (I : Imm) (m : List Loc) (xs : List A) (ys : List Value) : Prop := xs.length = ys.length ∧ ∀ (j : Nat) x y, xs[j]? = some x → ys[j]? = some y → VRel I m x y

theorem Rels.mono {I' : Imm} {m' : List Loc} {xs : List A} {ys : List Value} (r : Rels I m xs ys) (hI : ILe I I') (hm : MLe m m') : Rels I' m' xs ys := ⟨r.1, fun j x y hx hy => (r.2 j x y hx hy).mono hI hm⟩

theorem rt {t : TypeId} {i : TypeInfo} (w : World) (h : P.info? t = some i) : (typeInfo t).run P w = .ok i w := by simp [typeInfo, h]
theorem run_isAgg {t : TypeId} {d : TypeDesc} (hd : P.underlying t = some d) : (isAgg t).run P w = .ok (D.of d).agg w := by
  simp only [isAgg, Sem.run_bind, run_underlying hd, Result.andThen_ok]
  cases d <;> rfl

/-- What a pointer leads to: the cells, and the values that they hold. -/
theorem getCells_sound (r : Rel I m h w) {p : A} {n : Nat} {cs : List A} {y : Value} (hp : VRel I m p y) (hc : getCells h p n = some cs) :
    ∃ b o ys, y = .pointer (some ⟨b, o, none⟩) ∧ cs.length = n ∧ Rels I m cs ys ∧ ∀ (j : Nat) z, ys[j]? = some z → w.cell? ⟨b, o + j, none⟩ = some z := by
  have mk : ∀ (b o : Nat) (R : A → Value → Prop), (∀ x z, R x z → VRel I m x z) → (∀ (j : Nat) x, cs[j]? = some x → ∃ z, w.cell? ⟨b, o + j, none⟩ = some z ∧ R x z) →
      ∃ ys : List Value, Rels I m cs ys ∧ ∀ (j : Nat) z, ys[j]? = some z → w.cell? ⟨b, o + j, none⟩ = some z := by
    intro b o R hR hh
    refine ⟨(List.range cs.length).map fun j => (w.cell? ⟨b, o + j, none⟩).getD undef, ⟨by simp, fun j x z hx hz => ?_⟩, fun j z hz => ?_⟩
    · obtain ⟨z', hz', hr⟩ := hh j x hx
      rw [List.getElem?_map, List.getElem?_range (List.getElem?_eq_some_iff.1 hx).1] at hz
      simp [hz'] at hz
      exact hR _ _ (hz ▸ hr)
    · rw [List.getElem?_map] at hz
      cases hj : (List.range cs.length)[j]? with
      | none => simp [hj] at hz
      | some k =>
        rw [hj] at hz
        have hk : k = j := by
          obtain ⟨h1, h2⟩ := List.getElem?_eq_some_iff.1 hj
          simpa using h2.symm
        subst hk
        have hlt : k < cs.length := by simpa using (List.getElem?_eq_some_iff.1 hj).1
        obtain ⟨z', hz', _⟩ := hh k _ (List.getElem?_eq_getElem hlt)
        simp [hz'] at hz
        rw [hz', hz]
  unfold getCells at hc
  split at hc
  · rename_i i off
    cases hp with
    | flat hf => cases hf
    | ptr _ _ l hl =>
      cases hx : h[i]? with
      | none => simp [hx] at hc
      | some x =>
        have ob := r.ob i x l hx hl
        have main : ∀ xs : List A, x.list? = some xs → ∀ R : A → Value → Prop, (∀ x z, R x z → VRel I m x z) → (∀ (j : Nat) x, xs[j]? = some x → ∃ z, w.cell? ⟨l.blk, l.off + j, none⟩ = some z ∧ R x z) →
            ∃ b o ys, Value.pointer (some ⟨l.blk, l.off + off, none⟩) = .pointer (some ⟨b, o, none⟩) ∧ cs.length = n ∧ Rels I m cs ys ∧ ∀ (j : Nat) z, ys[j]? = some z → w.cell? ⟨b, o + j, none⟩ = some z := by
          intro xs hxs R hR hh
          simp only [hx, Option.bind_some, hxs] at hc
          split at hc
          · rename_i hlen
            obtain rfl := Option.some.inj hc
            have hcs : ((xs.drop off).take n).length = n := by rw [List.length_take, List.length_drop]; omega
            obtain ⟨ys, h1, h2⟩ := mk l.blk (l.off + off) R hR (fun j x hx => by
              have hj : j < n := by have := (List.getElem?_eq_some_iff.1 hx).1; omega
              rw [List.getElem?_take_of_lt hj, List.getElem?_drop] at hx
              rw [Nat.add_assoc]
              exact hh _ _ hx)
            exact ⟨_, _, ys, rfl, hcs, h1, h2⟩
          · cases hc
        have rowmain : ∀ (R : A → Value → Prop) (xs : List A), RowRel R w l xs → ∀ (j : Nat) x, xs[j]? = some x → ∃ z, w.cell? ⟨l.blk, l.off + j, none⟩ = some z ∧ R x z := fun R xs rr j x hx => by
          have hj : j < xs.length := (List.getElem?_eq_some_iff.1 hx).1
          obtain ⟨z, hz⟩ := Option.isSome_iff_exists.1 (rr.there j (Nat.lt_of_lt_of_le hj rr.fits))
          exact ⟨z, hz, rr.holds j x z hx hz⟩
        cases x with
        | cells xs => exact main xs rfl (VRel I m) (fun _ _ h => h) (rowmain _ _ ob)
        | row xs => exact main xs rfl (FRel I) (fun _ _ h => .flat h) (rowmain _ _ ob)
        | ro xs => exact main xs rfl (FRel I) (fun _ _ h => .flat h) (fun j x hx => by obtain ⟨z, hz, hf⟩ := ob.2 j x hx; exact ⟨z, r.imm _ _ _ hz, hf⟩)
        | map es => simp [hx, Ob.list?] at hc
        | dead => simp [hx, Ob.list?] at hc
  · rename_i cs0
    split at hc
    · rename_i hlen
      obtain rfl := Option.some.inj hc
      cases hp with
      | flat hf =>
        cases hf with
        | fp b o _ zs h1 h2 =>
          obtain ⟨ys, h3, h4⟩ := mk b o (FRel I) (fun _ _ h => .flat h) (fun j x hx => by
            have hj : j < n := by have := (List.getElem?_eq_some_iff.1 hx).1; rw [List.length_take] at this; omega
            rw [List.getElem?_take_of_lt hj] at hx
            exact ⟨zs j, r.imm _ _ _ (h1 j x hx), h2 j x hx⟩)
          exact ⟨b, o, ys, rfl, by rw [List.length_take]; omega, h3, h4⟩
    · cases hc
  · cases hc

theorem run_loadCells_at (b o : Nat) (ys : List Value) (hh : ∀ (j : Nat) z, ys[j]? = some z → w.cell? ⟨b, o + j, none⟩ = some z) : (loadCells ⟨b, o, none⟩ ys.length).run P w = .ok ys.toArray w :=
  run_loadCells_list w ⟨b, o, none⟩ ys (fun j z hz => by
    have hadd : (⟨b, o, none⟩ : Addr).add j = ⟨b, o + j, none⟩ := by unfold Addr.add; split <;> simp_all
    rw [hadd]; exact hh j z hz)

theorem addr_add (b o j : Nat) : (⟨b, o, none⟩ : Addr).add j = ⟨b, o + j, none⟩ := by unfold Addr.add; split <;> simp_all

theorem sound_load (r : Rel I m h w) {t : TypeId} {p x : A} {y : Value} (hp : VRel I m p y) (hx : evLoad (tab P) t p h = some x) : ∃ z, (Instr.loadAt t y).run P w = .ok z w ∧ VRel I m x z := by
  unfold evLoad at hx
  split at hx
  · rename_i i hi
    obtain ⟨info, d, z, h1, h2, h3, h4, h5, h6, h7⟩ := tab_some hi
    cases hc : getCells h p i.size with
    | none => simp [hc] at hx
    | some cs =>
      rw [hc, Option.bind_some] at hx
      obtain ⟨b, o, ys, rfl, hl, hr, hcell⟩ := getCells_sound r hp hc
      unfold ofCells at hx
      split at hx
      · rename_i ha
        obtain rfl := Option.some.inj hx
        refine ⟨.agg ys.toArray, ?_, .agg _ _ hr.1 hr.2⟩
        have hs : info.size = ys.length := by rw [← h4, ← hl, hr.1]
        simp only [Instr.loadAt, Instr.sureAddr, loadVar, Sem.run_bind, Sem.run_pure, Result.andThen_ok, run_isAgg h2, ← h7, ha, if_true, sizeOf, rt w h1, hs, run_loadCells_at b o ys hcell]
      · rename_i ha
        split at hx
        · rename_i c0
          obtain rfl := Option.some.inj hx
          have hy : ∃ z, ys = [z] := by
            have := hr.1
            match ys, this with
            | [z], _ => exact ⟨z, rfl⟩
          obtain ⟨z0, rfl⟩ := hy
          refine ⟨z0, ?_, hr.2 0 _ _ rfl rfl⟩
          have hz0 := hcell 0 z0 rfl
          simp only [Nat.add_zero] at hz0
          simp only [Instr.loadAt, Instr.sureAddr, loadVar, Sem.run_bind, Sem.run_pure, Result.andThen_ok, run_isAgg h2, ← h7, ha, Bool.false_eq_true, if_false, run_load, hz0]
        · cases hx
  · cases hx


theorem addP_sound {p q : A} {y : Value} {n : Nat} (hp : VRel I m p y) (hq : addP p n = some q) : ∃ b o, y = .pointer (some ⟨b, o, none⟩) ∧ VRel I m q (.pointer (some ⟨b, o + n, none⟩)) := by
  unfold addP at hq
  split at hq
  · obtain rfl := Option.some.inj hq
    cases hp with
    | flat hf => cases hf
    | ptr _ _ l hl => exact ⟨_, _, rfl, by rw [Nat.add_assoc]; exact .ptr _ _ l hl⟩
  · obtain rfl := Option.some.inj hq
    cases hp with
    | flat hf =>
      cases hf with
      | fp b o cs zs h1 h2 =>
        refine ⟨b, o, rfl, .flat (.fp b (o + n) _ (fun j => zs (n + j)) (fun j c hc => ?_) (fun j c hc => ?_))⟩
        · rw [List.getElem?_drop] at hc; rw [Nat.add_assoc]; exact h1 _ _ hc
        · rw [List.getElem?_drop] at hc; exact h2 _ _ hc
  · cases hq

theorem int?_sound {x : A} {y : Value} {k : IntKind} {n : Int} (hx : VRel I m x y) (h : int? x = some (k, n)) : y = .int k n := by
  unfold int? at h
  split at h
  · obtain ⟨rfl, rfl⟩ := Prod.mk.inj (Option.some.inj h)
    cases hx with
    | flat hf => cases hf; rfl
  · cases h

theorem v_sound {x y : Value} (hx : VRel I m (.v x) y) : y = x := by
  cases hx with
  | flat hf => cases hf; rfl

theorem struct_field {d : TypeDesc} {l : List (Nat × TypeId)} {f off : Nat} {ft : TypeId} (h : D.struct l = D.of d) (hf : l[f]? = some (off, ft)) : ∃ fs fld, d = .struct fs ∧ fs[f]? = some fld ∧ fld.offset = off ∧ fld.type = ft := by
  obtain ⟨fs, rfl, rfl⟩ := D.of_struct h
  rw [List.getElem?_map] at hf
  cases hg : fs.toList[f]? with
  | none => simp [hg] at hf
  | some fld =>
    simp [hg] at hf
    exact ⟨fs, fld, rfl, by simpa using hg, hf.1, hf.2⟩

theorem sound_fieldAddr {t : TypeId} {p x : A} {y : Value} {f : Nat} (hp : VRel I m p y) (hx : evFieldAddr (tab P) t p f = some x) : ∃ z, (Instr.fieldAt t y f).run P w = .ok z w ∧ VRel I m x z := by
  unfold evFieldAddr at hx
  split at hx
  · rename_i size bytes zr fs eqs hi
    obtain ⟨info, d, z, h1, h2, h3, h4, h5, h6, h7⟩ := tab_some hi
    split at hx
    · rename_i off ft hf
      split at hx
      · rename_i fi hfi
        obtain ⟨info', d', z', k1, k2, k3, k4, k5, k6, k7⟩ := tab_some hfi
        split at hx
        · rename_i hpos
          obtain ⟨b, o, rfl, hq⟩ := addP_sound hp hx
          obtain ⟨fa, fld, rfl, hg, rfl, rfl⟩ := struct_field h7 hf
          refine ⟨_, ?_, hq⟩
          have hne : ¬ info'.size = 0 := by rw [← k4]; omega
          simp only [Instr.fieldAt, Instr.sureAddr, Sem.run_bind, run_underlying h2, Result.andThen_ok, hg, Sem.run_pure, fieldPlace, sizeOf, rt w k1, hne, if_false, addr_add]
        · cases hx
      · cases hx
    · cases hx
  · cases hx

theorem sound_indexAddr {t : TypeId} {p q x : A} {y z : Value} (hp : VRel I m p y) (hq : VRel I m q z) (hx : evIndexAddr (tab P) t p q = some x) : ∃ u, (Instr.indexAt t y z).run P w = .ok u w ∧ VRel I m x u := by
  unfold evIndexAddr at hx
  split at hx
  · rename_i k i hik
    obtain rfl := int?_sound hq hik
    split at hx
    · rename_i size bytes zr n e eqs hi
      obtain ⟨info, d, z, h1, h2, h3, h4, h5, h6, h7⟩ := tab_some hi
      obtain rfl := D.of_array h7
      split at hx
      · rename_i ei hei
        obtain ⟨info', d', z', k1, k2, k3, k4, k5, k6, k7⟩ := tab_some hei
        split at hx
        · rename_i hb
          simp only [Bool.and_eq_true, decide_eq_true_eq] at hb
          obtain ⟨b, o, rfl, hr⟩ := addP_sound hp hx
          refine ⟨_, ?_, hr⟩
          simp only [Instr.indexAt, asIntOf, Instr.sureAddr, Sem.run_bind, Sem.run_pure, run_underlying h2, Result.andThen_ok, hb.1, hb.2, and_self, if_true, sizeOf, rt w k1, ← k4, addr_add]
        · cases hx
      · cases hx
    · rename_i size bytes zr e eqs hi
      obtain ⟨info, d, z, h1, h2, h3, h4, h5, h6, h7⟩ := tab_some hi
      obtain rfl := D.of_slice h7
      split at hx
      · rename_i ei o off n sz hei
        obtain ⟨info', d', z', k1, k2, k3, k4, k5, k6, k7⟩ := tab_some hei
        split at hx
        · rename_i hb
          simp only [Bool.and_eq_true, decide_eq_true_eq] at hb
          obtain ⟨⟨hb1, hb2⟩, rfl⟩ := hb
          obtain rfl := Option.some.inj hx
          cases hp with
          | flat hf => cases hf
          | sl _ _ _ _ cap l hl hn hc he =>
            refine ⟨.pointer (some ⟨l.blk, l.off + (off + i.toNat * ei.size), none⟩), ?_, .ptr _ _ l hl⟩
            simp only [Instr.indexAt, asIntOf, Sem.run_bind, Sem.run_pure, run_underlying h2, Result.andThen_ok, hb1, hb2, and_self, if_true, sizeOf, rt w k1, ← k4, addr_add, Nat.add_assoc]
          | sl0 _ _ _ a => omega
        · cases hx
      · rename_i ei n cs hei
        obtain ⟨info', d', z', k1, k2, k3, k4, k5, k6, k7⟩ := tab_some hei
        split at hx
        · rename_i hb
          simp only [Bool.and_eq_true, decide_eq_true_eq] at hb
          obtain rfl := Option.some.inj hx
          cases hp with
          | flat hf =>
            cases hf with
            | lst _ cap b o _ zs hn hc h1' h2' =>
              refine ⟨.pointer (some ⟨b, o + i.toNat * ei.size, none⟩), ?_, .flat (.fp b _ _ (fun j => zs (i.toNat * ei.size + j)) (fun j c hc => ?_) (fun j c hc => ?_))⟩
              · simp only [Instr.indexAt, asIntOf, Sem.run_bind, Sem.run_pure, run_underlying h2, Result.andThen_ok, hb.1, hb.2, and_self, if_true, sizeOf, rt w k1, ← k4, addr_add]
              · rw [List.getElem?_drop] at hc; rw [Nat.add_assoc]; exact h1' _ _ hc
              · rw [List.getElem?_drop] at hc; exact h2' _ _ hc
            | lst0 a cap hc => omega
            | lstN => omega
        · cases hx
      · cases hx
    · cases hx
  · cases hx

theorem part_sound {agg : Bool} {xs : List A} {ys : List Value} {off n : Nat} {t : TypeId} {info : TypeInfo} {d : TypeDesc} {x : A} (h1 : P.info? t = some info) (h2 : P.underlying t = some d) (hs : n = info.size) (ha : agg = (D.of d).agg)
    (hr : Rels I m xs ys) (hl : off + n ≤ xs.length) (hx : ofCells agg ((xs.drop off).take n) = some x) : ∃ z, (part t ys.toArray off).run P w = .ok z w ∧ VRel I m x z := by
  subst hs
  have hyl : off + info.size ≤ ys.length := by rw [← hr.1]; exact hl
  have hsub : Rels I m ((xs.drop off).take info.size) ((ys.drop off).take info.size) := by
    refine ⟨by simp [hr.1], fun j a b hj1 hj2 => ?_⟩
    have hj : j < info.size := by have := (List.getElem?_eq_some_iff.1 hj1).1; rw [List.length_take] at this; omega
    rw [List.getElem?_take_of_lt hj, List.getElem?_drop] at hj1 hj2
    exact hr.2 _ _ _ hj1 hj2
  unfold ofCells at hx
  split at hx
  · rename_i hagg
    obtain rfl := Option.some.inj hx
    refine ⟨.agg ((ys.drop off).take info.size).toArray, ?_, .agg _ _ hsub.1 hsub.2⟩
    have : ys.toArray.extract off (off + info.size) = ((ys.drop off).take info.size).toArray := by
      simp [List.extract_toArray, List.extract_eq_take_drop]
    simp only [part, Sem.run_bind, run_isAgg h2, ← ha, hagg, Result.andThen_ok, if_true, sizeOf, rt w h1, Sem.run_pure, this]
  · rename_i hagg
    split at hx
    · rename_i c0 hc0
      obtain rfl := Option.some.inj hx
      have hn : info.size ≠ 0 := by intro e; rw [e] at hc0; simp at hc0
      have e0 : xs[off]? = some c0 := by
        have : ((xs.drop off).take info.size)[0]? = some c0 := by rw [hc0]; rfl
        rw [List.getElem?_take_of_lt (by omega), List.getElem?_drop] at this
        exact this
      have hlt : off < ys.length := by omega
      refine ⟨ys[off], ?_, hr.2 off _ _ e0 (List.getElem?_eq_getElem hlt)⟩
      simp only [part, Sem.run_bind, run_isAgg h2, ← ha, hagg, Result.andThen_ok, Bool.false_eq_true, if_false, List.getElem?_toArray, List.getElem?_eq_getElem hlt, Sem.run_pure]
    · cases hx

theorem agg_sound {xs : List A} {y : Value} (hx : VRel I m (.agg xs) y) : ∃ ys : List Value, y = .agg ys.toArray ∧ Rels I m xs ys := by
  cases hx with
  | flat hf => cases hf
  | agg _ ys hl hh => exact ⟨ys, rfl, hl, hh⟩

theorem sound_field {t : TypeId} {p x : A} {y : Value} {f : Nat} (hp : VRel I m p y) (hx : evField (tab P) t p f = some x) : ∃ z, (Instr.field t y f).run P w = .ok z w ∧ VRel I m x z := by
  unfold evField at hx
  split at hx
  · rename_i size bytes zr fs eqs xs hi
    obtain ⟨info, d, z, h1, h2, h3, h4, h5, h6, h7⟩ := tab_some hi
    obtain ⟨ys, rfl, hr⟩ := agg_sound hp
    split at hx
    · rename_i off ft hf
      split at hx
      · rename_i fi hfi
        obtain ⟨info', d', z', k1, k2, k3, k4, k5, k6, k7⟩ := tab_some hfi
        split at hx
        · rename_i hlen
          obtain ⟨fa, fld, rfl, hg, rfl, rfl⟩ := struct_field h7 hf
          obtain ⟨u, hu, hv⟩ := part_sound (w := w) k1 k2 k4 (by rw [k7]) hr hlen hx
          refine ⟨u, ?_, hv⟩
          simp only [Instr.field, Sem.run_bind, run_underlying h2, Result.andThen_ok, hg, asAgg, Sem.run_pure, hu]
        · cases hx
      · cases hx
    · cases hx
  · cases hx

theorem sound_index {t : TypeId} {p q x : A} {y z : Value} (hp : VRel I m p y) (hq : VRel I m q z) (hx : evIndex (tab P) t p q = some x) : ∃ u, (Instr.index t y z).run P w = .ok u w ∧ VRel I m x u := by
  unfold evIndex at hx
  split at hx
  · rename_i k i hik
    obtain rfl := int?_sound hq hik
    split at hx
    · rename_i size bytes zr n e eqs xs hi
      obtain ⟨info, d, z, h1, h2, h3, h4, h5, h6, h7⟩ := tab_some hi
      obtain rfl := D.of_array h7
      obtain ⟨ys, rfl, hr⟩ := agg_sound hp
      split at hx
      · rename_i ei hei
        obtain ⟨info', d', z', k1, k2, k3, k4, k5, k6, k7⟩ := tab_some hei
        split at hx
        · rename_i hb
          simp only [Bool.and_eq_true, decide_eq_true_eq] at hb
          obtain ⟨u, hu, hv⟩ := part_sound (w := w) k1 k2 k4 (by rw [k7]) hr hb.2 hx
          refine ⟨u, ?_, hv⟩
          rw [k4] at hu
          simp only [Instr.index, asIntOf, Sem.run_bind, Sem.run_pure, run_underlying h2, Result.andThen_ok, hb.1.1, hb.1.2, and_self, if_true, sizeOf, rt w k1, hu]
        · cases hx
      · cases hx
    · rename_i size bytes zr eqs s hi
      obtain ⟨info, d, z, h1, h2, h3, h4, h5, h6, h7⟩ := tab_some hi
      obtain rfl := D.of_string h7
      obtain rfl := v_sound hp
      split at hx
      · rename_i hb
        simp only [Bool.and_eq_true, decide_eq_true_eq] at hb
        obtain rfl := Option.some.inj hx
        have hlt : i.toNat < s.size := by omega
        refine ⟨_, ?_, .flat (.v _)⟩
        have e1 : s[i.toNat]? = some (s[i.toNat]'hlt) := getElem?_pos s i.toNat hlt
        have e2 : s.data.toList.getD i.toNat 0 = s[i.toNat]'hlt := by
          rw [List.getD_eq_getElem?_getD, List.getElem?_eq_getElem (by simpa using hlt)]
          rfl
        simp only [Instr.index, asIntOf, Sem.run_bind, Sem.run_pure, run_underlying h2, Result.andThen_ok, hb.1, if_true, e1, e2]
      · cases hx
    · cases hx
  · cases hx

end
end Go.Flat
