/-
  What the interpreter answers to an operation is what the model's operation comes to: slices, numbers, tests.
-/
import Derived.Test.YtldpbpgceplejaaFlatD
namespace Go.Flat
set_option linter.unusedSimpArgs false

section
variable {P : Program} {I : Imm} {m : List Loc} {h : List Ob} {w : World}

def ORel (I : Imm) (m : List Loc) : Option A → Option Value → Prop
  | none, none => True
  | some x, some y => VRel I m x y
  | _, _ => False

theorem ORel.some {x : A} {y : Option Value} (o : ORel I m (some x) y) : ∃ z, y = some z ∧ VRel I m x z := by
  cases y with
  | none => exact o.elim
  | some z => exact ⟨z, rfl, o⟩
theorem ORel.none {y : Option Value} (o : ORel I m none y) : y = none := by
  cases y with
  | none => rfl
  | some z => exact o.elim

/-- A bound, as it is asked. -/
theorem bound_sound {x : A} {y : Value} {n : Nat} {v : Nat} (hx : VRel I m x y) (he : bound n x = some v) (k : Nat) (hk : n ≤ k) (code : BoundsCode) :
    (Instr.sliceBound y k code).run P w = .ok v w ∧ v ≤ n := by
  unfold bound at he
  split at he
  · rename_i kd i hi
    obtain rfl := int?_sound hx hi
    split at he
    · rename_i hb
      simp only [Bool.and_eq_true, decide_eq_true_eq] at hb
      obtain rfl := Option.some.inj he
      exact ⟨run_sliceBound _ _ _ _ _ hb.1 (by omega), by omega⟩
    · cases he
  · cases he

theorem lowB_sound {lo : Option A} {lo' : Option Value} {h0 l hh : Nat} (hlo : ORel I m lo lo') (he : lowB lo h0 = some (l, hh)) (code : BoundsCode) :
    ((lo' = none ∧ l = 0) ∨ (∃ v, lo' = some v ∧ (Instr.sliceBound v hh code).run P w = .ok l w)) ∧ l ≤ hh ∧ h0 = hh := by
  unfold lowB at he
  cases lo with
  | none =>
    obtain rfl := hlo.none
    simp only [Option.some.injEq, Prod.mk.injEq] at he
    obtain ⟨rfl, rfl⟩ := he
    exact ⟨.inl ⟨rfl, rfl⟩, Nat.zero_le _, rfl⟩
  | some x =>
    obtain ⟨y, rfl, hy⟩ := hlo.some
    simp only at he
    split at he
    · rename_i l' hb
      simp only [Option.some.injEq, Prod.mk.injEq] at he
      obtain ⟨rfl, rfl⟩ := he
      obtain ⟨h1, h2⟩ := bound_sound (P := P) (w := w) hy hb h0 (Nat.le_refl _) code
      exact ⟨.inr ⟨y, rfl, h1⟩, h2, rfl⟩
    · cases he

theorem bnd_sound {n cap : Nat} {lo hi mx : Option A} {lo' hi' mx' : Option Value} {l hh : Nat} (b : Bool) (hlo : ORel I m lo lo') (hhi : ORel I m hi hi') (hmx : ORel I m mx mx') (hn : n ≤ cap) (he : bnd n lo hi mx = some (l, hh)) :
    ∃ k, (Instr.sliceBounds b n cap lo' hi' mx').run P w = .ok (l, hh, k) w ∧ l ≤ hh ∧ hh ≤ n ∧ hh ≤ k ∧ k ≤ cap ∧ (mx = none → k = cap) := by
  unfold bnd at he
  split at he
  · obtain rfl := hmx.none
    obtain rfl := hhi.none
    obtain ⟨h1, h2, rfl⟩ := lowB_sound (P := P) (w := w) hlo he .sliceB
    refine ⟨cap, ?_, h2, Nat.le_refl _, hn, Nat.le_refl _, fun _ => rfl⟩
    rcases h1 with ⟨rfl, rfl⟩ | ⟨v, rfl, h1⟩ <;> simp only [Instr.sliceBounds, Sem.run_bind, Sem.run_pure, Result.andThen_ok, Option.isSome_none, Bool.false_eq_true, if_false, *]
  · rename_i x
    obtain rfl := hmx.none
    obtain ⟨y, rfl, hy⟩ := hhi.some
    split at he
    · rename_i hh' hb
      obtain ⟨h1, h2, rfl⟩ := lowB_sound (P := P) (w := w) hlo he .sliceB
      obtain ⟨g1, g2⟩ := bound_sound (P := P) (w := w) hy hb cap hn (if b then .sliceAcap else .sliceAlen)
      refine ⟨cap, ?_, h2, g2, by omega, Nat.le_refl _, fun _ => rfl⟩
      rcases h1 with ⟨rfl, rfl⟩ | ⟨v, rfl, h1⟩ <;> simp only [Instr.sliceBounds, Sem.run_bind, Sem.run_pure, Result.andThen_ok, Option.isSome_none, Bool.false_eq_true, if_false, g1, *]
    · cases he
  · rename_i z x
    obtain ⟨u, rfl, hu⟩ := hmx.some
    obtain ⟨y, rfl, hy⟩ := hhi.some
    split at he
    · rename_i k hk
      split at he
      · rename_i hh' hb
        obtain ⟨f1, f2⟩ := bound_sound (P := P) (w := w) hu hk cap hn (if b then .slice3Acap else .slice3Alen)
        obtain ⟨h1, h2, rfl⟩ := lowB_sound (P := P) (w := w) hlo he .slice3C
        obtain ⟨g1, g2⟩ := bound_sound (P := P) (w := w) hy hb k (Nat.le_refl _) .slice3B
        refine ⟨k, ?_, h2, by omega, g2, by omega, fun e => by cases e⟩
        rcases h1 with ⟨rfl, rfl⟩ | ⟨v, rfl, h1⟩ <;> simp only [Instr.sliceBounds, Sem.run_bind, Sem.run_pure, Result.andThen_ok, Option.isSome_some, if_true, f1, g1, *]
      · cases he
    · cases he
  · cases he

theorem sl_cut {i off sz cap l hh k : Nat} {L : Loc} (hl : m[i]? = some L) (hc : cap ≤ maxLen) (he : off + cap * sz ≤ L.ext) (h1 : l ≤ hh) (h3 : hh ≤ k) (h4 : k ≤ cap) :
    VRel I m (.sl i (off + l * sz) (hh - l) sz) (.slice (some (if k = l then (⟨L.blk, L.off + off, none⟩ : Addr) else (⟨L.blk, L.off + off, none⟩ : Addr).add (l * sz))) (hh - l) (k - l)) := by
  by_cases e : k = l
  · rw [if_pos e, show hh - l = 0 by omega, show k - l = 0 by omega]
    exact .sl0 _ _ _ _
  · rw [if_neg e, addr_add]
    rw [show L.off + off + l * sz = L.off + (off + l * sz) by omega]
    refine .sl _ _ _ _ _ L hl (by omega) (by omega) ?_
    have : (k - l) * sz + l * sz = k * sz := by rw [← Nat.add_mul]; congr 1; omega
    have : k * sz ≤ cap * sz := Nat.mul_le_mul_right _ h4
    omega

theorem sound_slice (r : Rel I m h w) {t : TypeId} {x z : A} {y : Value} {lo hi mx : Option A} {lo' hi' mx' : Option Value} (hx : VRel I m x y) (hlo : ORel I m lo lo') (hhi : ORel I m hi hi') (hmx : ORel I m mx mx')
    (he : evSlice (tab P) t x lo hi mx h = some z) : ∃ u, (Instr.sliceAt t y lo' hi' mx').run P w = .ok u w ∧ VRel I m z u := by
  unfold evSlice at he
  split at he
  · rename_i size bytes zr n e eqs hi0
    obtain ⟨info, d, z0, h1, h2, h3, h4, h5, h6, h7⟩ := tab_some hi0
    obtain rfl := D.of_array h7
    split at he
    · rename_i ei l hh hei hb
      obtain ⟨info', d', z', k1, k2, k3, k4, k5, k6, k7⟩ := tab_some hei
      obtain ⟨k, hrun, g1, g2, g3, g4, g5⟩ := bnd_sound (P := P) (w := w) false hlo hhi hmx (Nat.le_refl n) hb
      split at he
      · rename_i i off
        have arr : ∀ xs : List A, (∀ L, m[i]? = some L → xs.length ≤ L.ext) → (if (mx.isNone && decide (l < n) && decide (n ≤ maxLen) && decide (off + n * ei.size ≤ xs.length)) = true then some (A.sl i (off + l * ei.size) (hh - l) ei.size) else none) = some z →
            ∃ u, (Instr.sliceAt t y lo' hi' mx').run P w = .ok u w ∧ VRel I m z u := by
          intro xs hxs he
          split at he
          · rename_i hc
            simp only [Bool.and_eq_true, decide_eq_true_eq] at hc
            obtain rfl := Option.some.inj he
            cases hx with
            | flat hf => cases hf
            | ptr _ _ L hL =>
              have hk : k = n := g5 (by simpa using hc.1.1.1)
              subst hk
              refine ⟨_, ?_, sl_cut hL hc.1.2 (by have := hxs L hL; omega) g1 g3 (Nat.le_refl _)⟩
              simp only [Instr.sliceAt, Sem.run_bind, run_underlying h2, Result.andThen_ok, Instr.sureAddr, Sem.run_pure, hrun, sizeOf, rt w k1, k4]
          · cases he
        split at he
        · rename_i xs hobj
          exact arr xs (fun L hL => (r.ob i _ L hobj hL : RowRel _ _ _ _).fits) he
        · rename_i xs hobj
          exact arr xs (fun L hL => (r.ob i _ L hobj hL : RowRel _ _ _ _).fits) he
        · cases he
      · cases he
    · cases he
  · rename_i size bytes zr eqs hi0
    obtain ⟨info, d, z0, h1, h2, h3, h4, h5, h6, h7⟩ := tab_some hi0
    obtain rfl := D.of_string h7
    split at he
    · rename_i s
      obtain rfl := v_sound hx
      split at he
      · cases he
      · rename_i hm
        cases mx with
        | some _ => simp at hm
        | none =>
          obtain rfl := hmx.none
          cases hb : bnd s.size lo hi none with
          | none => simp [hb] at he
          | some p =>
            obtain ⟨l, hh⟩ := p
            simp only [hb, Option.map_some, Option.some.injEq] at he
            subst he
            obtain ⟨k, hrun, _⟩ := bnd_sound (P := P) (w := w) (mx := none) (mx' := none) false hlo hhi trivial (Nat.le_refl s.size) hb
            refine ⟨_, ?_, .flat (.v _)⟩
            simp only [Instr.sliceAt, Instr.slice, Sem.run_bind, run_underlying h2, Result.andThen_ok, Sem.run_pure, hrun, Option.isSome_none, Bool.false_eq_true, if_false]
    · cases he
  · rename_i size bytes zr e eqs hi0
    obtain ⟨info, d, z0, h1, h2, h3, h4, h5, h6, h7⟩ := tab_some hi0
    obtain rfl := D.of_slice h7
    split at he
    · rename_i ei i off n sz hei
      obtain ⟨info', d', z', k1, k2, k3, k4, k5, k6, k7⟩ := tab_some hei
      cases hb : bnd n lo hi mx with
      | none => simp [hb] at he
      | some p =>
        obtain ⟨l, hh⟩ := p
        simp only [hb, Option.bind_some] at he
        split at he
        · rename_i hsz
          subst hsz
          obtain rfl := Option.some.inj he
          cases hx with
          | flat hf => cases hf
          | sl _ _ _ _ cap L hL hn hc hext =>
            obtain ⟨k, hrun, g1, g2, g3, g4, g5⟩ := bnd_sound (P := P) (w := w) true hlo hhi hmx hn hb
            refine ⟨_, ?_, sl_cut hL hc hext g1 g3 g4⟩
            simp only [Instr.sliceAt, Instr.slice, Sem.run_bind, run_underlying h2, Result.andThen_ok, Sem.run_pure, hrun, sizeOf, rt w k1, k4]
            split <;> rfl
          | sl0 _ _ _ a =>
            obtain ⟨k, hrun, g1, g2, g3, g4, g5⟩ := bnd_sound (P := P) (w := w) true hlo hhi hmx (Nat.le_refl 0) hb
            have e1 : hh = 0 := by omega
            have e2 : l = 0 := by omega
            have e3 : k = 0 := by omega
            subst e1; subst e2; subst e3
            refine ⟨.slice (some a) 0 0, ?_, .sl0 _ _ _ _⟩
            simp only [Instr.sliceAt, Instr.slice, Sem.run_bind, run_underlying h2, Result.andThen_ok, Sem.run_pure, hrun, sizeOf, rt w k1, if_true, Nat.sub_zero]
        · cases he
    · rename_i ei n cs hei
      obtain ⟨info', d', z', k1, k2, k3, k4, k5, k6, k7⟩ := tab_some hei
      cases hb : bnd n lo hi mx with
      | none => simp [hb] at he
      | some p =>
        obtain ⟨l, hh⟩ := p
        simp only [hb, Option.map_some, Option.some.injEq] at he
        subst he
        cases hx with
        | flat hf =>
          cases hf with
          | lst _ cap b o _ zs hn hc h1' h2' =>
            obtain ⟨k, hrun, g1, g2, g3, g4, g5⟩ := bnd_sound (P := P) (w := w) true hlo hhi hmx hn hb
            refine ⟨_, by simp only [Instr.sliceAt, Instr.slice, Sem.run_bind, run_underlying h2, Result.andThen_ok, Sem.run_pure, hrun, sizeOf, rt w k1]; rfl, ?_⟩
            rw [k4]
            by_cases e : k = l
            · rw [if_pos e, show hh - l = 0 by omega, show k - l = 0 by omega, Nat.zero_mul, List.take_zero]
              exact .flat (.lst0 _ _ (Nat.zero_le _))
            · rw [if_neg e]
              simp only [Option.map_some, addr_add]
              refine .flat (.lst _ _ _ _ _ (fun j => zs (l * info'.size + j)) (by omega) (by omega) (fun j c hj => ?_) (fun j c hj => ?_))
              · have hj' : j < (hh - l) * info'.size := by have := (List.getElem?_eq_some_iff.1 hj).1; rw [List.length_take] at this; omega
                rw [List.getElem?_take_of_lt hj', List.getElem?_drop] at hj
                rw [Nat.add_assoc]; exact h1' _ _ hj
              · have hj' : j < (hh - l) * info'.size := by have := (List.getElem?_eq_some_iff.1 hj).1; rw [List.length_take] at this; omega
                rw [List.getElem?_take_of_lt hj', List.getElem?_drop] at hj
                exact h2' _ _ hj
          | lst0 a cap hc =>
            obtain ⟨k, hrun, g1, g2, g3, g4, g5⟩ := bnd_sound (P := P) (w := w) true hlo hhi hmx (Nat.zero_le cap) hb
            have e1 : hh = 0 := by omega
            have e2 : l = 0 := by omega
            subst e1; subst e2
            refine ⟨_, by simp only [Instr.sliceAt, Instr.slice, Sem.run_bind, run_underlying h2, Result.andThen_ok, Sem.run_pure, hrun, sizeOf, rt w k1]; rfl, ?_⟩
            simp only [Nat.zero_mul, List.drop_nil, List.take_nil, Nat.sub_zero, Option.map_some]
            split <;> exact .flat (.lst0 _ _ (by omega))
          | lstN =>
            obtain ⟨k, hrun, g1, g2, g3, g4, g5⟩ := bnd_sound (P := P) (w := w) true hlo hhi hmx (Nat.le_refl 0) hb
            have e1 : hh = 0 := by omega
            have e2 : l = 0 := by omega
            have e3 : k = 0 := by omega
            subst e1; subst e2; subst e3
            refine ⟨_, by simp only [Instr.sliceAt, Instr.slice, Sem.run_bind, run_underlying h2, Result.andThen_ok, Sem.run_pure, hrun, sizeOf, rt w k1]; rfl, ?_⟩
            simp only [Nat.zero_mul, List.drop_nil, List.take_nil, Nat.sub_zero, Option.map_none]
            exact .flat .lstN
    · rename_i ei hei
      obtain ⟨info', d', z', k1, k2, k3, k4, k5, k6, k7⟩ := tab_some hei
      cases hb : bnd 0 lo hi mx with
      | none => simp [hb] at he
      | some p =>
        obtain ⟨l, hh⟩ := p
        simp only [hb, Option.map_some, Option.some.injEq] at he
        subst he
        obtain rfl := v_sound hx
        obtain ⟨k, hrun, g1, g2, g3, g4, g5⟩ := bnd_sound (P := P) (w := w) true hlo hhi hmx (Nat.le_refl 0) hb
        have e1 : hh = 0 := by omega
        have e2 : l = 0 := by omega
        have e3 : k = 0 := by omega
        subst e1; subst e2; subst e3
        refine ⟨.slice none 0 0, ?_, .flat (.v _)⟩
        simp only [Instr.sliceAt, Instr.slice, Sem.run_bind, run_underlying h2, Result.andThen_ok, Sem.run_pure, hrun, sizeOf, rt w k1, if_true, Nat.sub_zero]
    · cases he
  · cases he

theorem sound_toArr {t : TypeId} {x z : A} {y : Value} (hx : VRel I m x y) (he : evToArr (tab P) t x = some z) : ∃ u, (Instr.arrayAt t y).run P w = .ok u w ∧ VRel I m z u := by
  unfold evToArr at he
  split at he
  · rename_i size bytes zr n e eqs hi0
    obtain ⟨info, d, z0, h1, h2, h3, h4, h5, h6, h7⟩ := tab_some hi0
    obtain rfl := D.of_array h7
    split at he
    · rename_i ei i off k sz hei
      split at he
      · rename_i hb
        simp only [Bool.and_eq_true, decide_eq_true_eq] at hb
        obtain rfl := Option.some.inj he
        cases hx with
        | flat hf => cases hf
        | sl _ _ _ _ cap L hL hn hc hext =>
          refine ⟨_, ?_, .ptr _ _ L hL⟩
          have : ¬ k < n := by omega
          simp only [Instr.arrayAt, Sem.run_bind, run_underlying h2, Result.andThen_ok, this, if_false, Sem.run_pure]
        | sl0 _ _ _ a => omega
      · cases he
    · rename_i ei k cs hei
      split at he
      · rename_i hb
        simp only [Bool.and_eq_true, decide_eq_true_eq] at hb
        obtain rfl := Option.some.inj he
        cases hx with
        | flat hf =>
          cases hf with
          | lst _ cap b o _ zs hn hc h1' h2' =>
            refine ⟨_, ?_, .flat (.fp b o _ zs h1' h2')⟩
            have : ¬ k < n := by omega
            simp only [Instr.arrayAt, Sem.run_bind, run_underlying h2, Result.andThen_ok, this, if_false, Sem.run_pure]
          | lst0 a cap hc => omega
          | lstN => omega
      · cases he
    · cases he
  · cases he


def plainV : Value → Bool
  | .agg _ | .nilIface => false
  | _ => true

theorem run_eqGuard_plain (op : BinOp) (t : TypeId) (x y : Operand) (a b : Value) (hp : plainV a = true) : (eqGuard op t x y a b).run P w = .ok () w := by
  unfold eqGuard
  cases op <;> first
    | rfl
    | (cases a <;> first | rfl | cases hp)

theorem sound_bin {op : BinOp} {a b z : A} {y u : Value} (ha : VRel I m a y) (hb : VRel I m b u) (t : TypeId) (ox oy : Operand) (he : evBin op a b = some z) :
    ∃ q, (do eqGuard op t ox oy y u; binOp op t y u : Sem Value).run P w = .ok q w ∧ VRel I m z q := by
  unfold evBin at he
  split at he
  · rename_i k n k' n'
    obtain rfl := v_sound ha
    obtain rfl := v_sound hb
    simp only [Sem.run_bind, run_eqGuard_plain op t ox oy (.int k n) (.int k' n') rfl, Result.andThen_ok]
    split at he
    · split at he
      · cases he
      · rename_i hn
        obtain rfl := Option.some.inj he
        exact ⟨_, by simp [binOp, Op.shift, hn], .flat (.v _)⟩
    · split at he
      · cases he
      · rename_i hn
        obtain rfl := Option.some.inj he
        exact ⟨_, by simp [binOp, Op.shift, hn], .flat (.v _)⟩
    · rename_i h1 h2
      split at he
      · rename_i hk
        subst hk
        split at he
        all_goals first
          | (split at he
             · cases he
             · rename_i hz
               obtain rfl := Option.some.inj he
               exact ⟨_, by simp [binOp, Op.intDiv, hz], .flat (.v _)⟩)
          | (cases he; done)
          | (obtain rfl := Option.some.inj he; exact ⟨_, by simp [binOp, Op.intArith, Op.intCmp, intBits_and, intBits_or, intBits_xor, intBits_andNot], .flat (.v _)⟩)
      · cases he
  · rename_i s s'
    obtain rfl := v_sound ha
    obtain rfl := v_sound hb
    simp only [Sem.run_bind, run_eqGuard_plain op t ox oy (.string s) (.string s') rfl, Result.andThen_ok]
    split at he
    · obtain rfl := Option.some.inj he
      exact ⟨_, by simp [binOp, Op.stringOp], .flat (.v _)⟩
    · obtain rfl := Option.some.inj he
      exact ⟨_, by simp [binOp, Op.stringOp], .flat (.v _)⟩
    · split at he
      · rename_i hs
        obtain rfl := Option.some.inj he
        have hs' : ¬ ((s.size + s'.size : Nat) : Int) > IntKind.i64.max := by
          have : IntKind.i64.max = 9223372036854775807 := by decide
          rw [this]; omega
        refine ⟨_, ?_, .flat (.v _)⟩
        simp only [binOp, Op.stringOp, hs', if_false]
        rfl
      · cases he
    · cases he
  · cases he

theorem sound_un {op : UnOp} {a z : A} {y : Value} (ha : VRel I m a y) (he : evUn op a = some z) : ∃ q, (Op.unary op y).run P w = .ok q w ∧ VRel I m z q := by
  unfold evUn at he
  split at he
  · obtain rfl := v_sound ha
    obtain rfl := Option.some.inj he
    exact ⟨_, rfl, .flat (.v _)⟩
  · obtain rfl := v_sound ha
    obtain rfl := Option.some.inj he
    exact ⟨_, rfl, .flat (.v _)⟩
  · obtain rfl := v_sound ha
    obtain rfl := Option.some.inj he
    exact ⟨_, rfl, .flat (.v _)⟩
  · cases he

theorem sound_len (r : Rel I m h w) {t ty : TypeId} {x z : A} {y : Value} (hx : VRel I m x y) (he : evLen (tab P) t x h = some z) : ∃ q, (Builtin.len_ #[t] ty #[y]).run P w = .ok q w ∧ VRel I m z q := by
  unfold evLen at he
  split at he
  · rename_i i hi
    obtain ⟨info, d, z0, h1, h2, h3, h4, h5, h6, h7⟩ := tab_some hi
    have hrun : ∀ (q : Value), (∀ v, y = v → (match d, v with
        | .string, .string s => (pure (goInt s.size) : Sem Value)
        | .array n _, _ => pure (goInt n)
        | .slice _, .slice _ n _ => pure (goInt n)
        | .map _ _, .map none => pure (goInt 0)
        | .map _ _, .map (some r) => do
          let .map entries _ ← getObj r | stuck "len: map expected"
          pure (goInt entries.size)
        | _, _ => stuck "no").run P w = .ok q w) → True := fun _ _ => trivial
    split at he
    · rename_i s hd
      obtain rfl := v_sound hx
      obtain rfl := D.of_string (hd.symm.trans h7)
      obtain rfl := Option.some.inj he
      exact ⟨_, by simp only [Builtin.len_, Sem.run_bind, run_underlying h2, Result.andThen_ok, List.getElem?_toArray, List.getElem?_cons_zero]; rfl, .flat (.v _)⟩
    · rename_i n e hd
      obtain rfl := D.of_array (hd.symm.trans h7)
      obtain rfl := Option.some.inj he
      exact ⟨_, by simp only [Builtin.len_, Sem.run_bind, run_underlying h2, Result.andThen_ok, List.getElem?_toArray, List.getElem?_cons_zero]; rfl, .flat (.v _)⟩
    · rename_i e hd
      obtain rfl := v_sound hx
      obtain rfl := D.of_slice (hd.symm.trans h7)
      obtain rfl := Option.some.inj he
      exact ⟨_, by simp only [Builtin.len_, Sem.run_bind, run_underlying h2, Result.andThen_ok, List.getElem?_toArray, List.getElem?_cons_zero]; rfl, .flat (.v _)⟩
    · rename_i e n cs hd
      obtain rfl := D.of_slice (hd.symm.trans h7)
      obtain rfl := Option.some.inj he
      cases hx with
      | flat hf => cases hf <;> exact ⟨_, by simp only [Builtin.len_, Sem.run_bind, run_underlying h2, Result.andThen_ok, List.getElem?_toArray, List.getElem?_cons_zero]; rfl, .flat (.v _)⟩
    · rename_i e i' off n sz hd
      obtain rfl := D.of_slice (hd.symm.trans h7)
      obtain rfl := Option.some.inj he
      cases hx with
      | flat hf => cases hf
      | sl => exact ⟨_, by simp only [Builtin.len_, Sem.run_bind, run_underlying h2, Result.andThen_ok, List.getElem?_toArray, List.getElem?_cons_zero]; rfl, .flat (.v _)⟩
      | sl0 => exact ⟨_, by simp only [Builtin.len_, Sem.run_bind, run_underlying h2, Result.andThen_ok, List.getElem?_toArray, List.getElem?_cons_zero]; rfl, .flat (.v _)⟩
    · rename_i k e hd
      obtain rfl := v_sound hx
      obtain rfl := D.of_map (hd.symm.trans h7)
      obtain rfl := Option.some.inj he
      exact ⟨_, by simp only [Builtin.len_, Sem.run_bind, run_underlying h2, Result.andThen_ok, List.getElem?_toArray, List.getElem?_cons_zero]; rfl, .flat (.v _)⟩
    · rename_i k e i' hd
      obtain rfl := D.of_map (hd.symm.trans h7)
      split at he
      · rename_i es hes
        obtain rfl := Option.some.inj he
        cases hx with
        | flat hf => cases hf
        | mp _ l hl =>
          obtain ⟨es', clock, hb, hlen, _⟩ := r.ob i' _ l hes hl
          refine ⟨_, ?_, .flat (.v _)⟩
          simp only [Builtin.len_, Sem.run_bind, run_underlying h2, Result.andThen_ok, List.getElem?_toArray, List.getElem?_cons_zero, getObj, Sem.run, hb, List.size_toArray, ← hlen]
          rfl
      · cases he
    · cases he
  · cases he

theorem sound_min2 {less : Bool} {a b z : A} {y u : Value} (ha : VRel I m a y) (hb : VRel I m b u) (he : evMin2 less a b = some z) :
    ∃ q, (if less then Builtin.min2 y u else Builtin.max2 y u).run P w = .ok q w ∧ VRel I m z q := by
  unfold evMin2 at he
  split at he
  · obtain rfl := v_sound ha
    obtain rfl := v_sound hb
    obtain rfl := Option.some.inj he
    cases less <;> exact ⟨_, rfl, .flat (.v _)⟩
  · cases he

theorem sound_fold {less : Bool} : ∀ {l : List A} {ys : List Value} {a z : A} {y : Value}, VRel I m a y → Rels I m l ys → evFold less a l = some z →
    ∃ q, (if less then ys.foldlM Builtin.min2 y else ys.foldlM Builtin.max2 y : Sem Value).run P w = .ok q w ∧ VRel I m z q
  | [], ys, a, z, y, ha, hl, he => by
    have : ys = [] := List.eq_nil_of_length_eq_zero hl.1.symm
    subst this
    obtain rfl := Option.some.inj he
    cases less <;> exact ⟨_, rfl, ha⟩
  | b :: l, ys, a, z, y, ha, hl, he => by
    cases ys with
    | nil => cases hl.1
    | cons u ys =>
      simp only [evFold] at he
      cases h2 : evMin2 less a b with
      | none => simp [h2] at he
      | some c =>
        simp only [h2, Option.bind_some] at he
        obtain ⟨q, hq, hv⟩ := sound_min2 (P := P) (w := w) ha (hl.2 0 b u rfl rfl) h2
        have hl' : Rels I m l ys := ⟨by have := hl.1; simpa using this, fun j x y hx hy => hl.2 (j + 1) x y (by simpa using hx) (by simpa using hy)⟩
        obtain ⟨q', hq', hv'⟩ := sound_fold hv hl' he
        refine ⟨q', ?_, hv'⟩
        cases less <;> simp only [Bool.false_eq_true, if_true, if_false] at hq hq' ⊢ <;> simp only [List.foldlM_cons, Sem.run_bind, hq, Result.andThen_ok, hq']

end
end Go.Flat
