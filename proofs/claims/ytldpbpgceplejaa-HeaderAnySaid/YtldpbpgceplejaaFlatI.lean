/-
  An operation, and a list of them: what the interpreter answers is what the model comes to.
-/
import Derived.Test.YtldpbpgceplejaaFlatH
namespace Go.Flat

section
variable {P : Program}

/-- A function is called: it has a body, or its answer is there at once. -/
def CallsV (P : Program) (f : FuncId) (args : Array Value) (w : World) (R : Value → World → Prop) : Prop :=
  match (callFunc f args).run P w with
  | .ok (.enter g as) w' => Calls P g as w' fun | .returned v, w'' => R v w'' | _, _ => False
  | .ok (.value v) w' => R v w'
  | _ => False

/-- The answer is right: whatever memory the function is called in. -/
def Good (P : Program) (f : FuncId) (args : List A) (h : List Ob) (r : A) (h' : List Ob) : Prop :=
  ∀ (I : Imm) (m : List Loc) (w : World) (cargs : List Value), Rel I m h w → Rels I m args cargs →
    CallsV P f cargs.toArray w fun y w' => ∃ I' m', Step I m h w I' m' h' w' ∧ VRel I' m' r y

def Sound (P : Program) (F : Fns) : Prop := ∀ f args h r h', F f args h = some (r, h') → Good P f args h r h'

theorem calls_of_body {f : FuncId} {fn : Func} {c : Code} {args : Array Value} {w : World} {R : Value → World → Prop} (hf : P.funcs[f]? = some fn) (hn : (fn.name == "runtime.NumGoroutine") = false) (hb : fn.body = some c)
    (h : Calls P f args w fun | .returned v, w'' => R v w'' | _, _ => False) : CallsV P f args w R := by
  unfold CallsV callFunc
  simp only [Sem.run_bind, run_program, Result.andThen_ok, hf, hn, Bool.false_eq_true, if_false, hb, Option.isNone_some, Sem.run_pure]
  exact h

variable {I : Imm} {m : List Loc} {h : List Ob} {w : World}

/-- A frame's slots. -/
structure TRel (I : Imm) (m : List Loc) (t : List A) (a : Act) : Prop where
  size : t.length = a.tmps.size
  rel : ∀ (j : Nat) x, t[j]? = some x → VRel I m x (a.tmps.getD j undef)
  defers : a.defers = []

theorem TRel.mono {I' : Imm} {m' : List Loc} {t : List A} {a : Act} (r : TRel I m t a) (hI : ILe I I') (hm : MLe m m') : TRel I' m' t a := ⟨r.size, fun j x hx => (r.rel j x hx).mono hI hm, r.defers⟩

theorem TRel.put {t : List A} {a : Act} (r : TRel I m t a) (d : Option Tmp) {x : A} {y : Value} (hx : VRel I m x y) : TRel I m (putT t d x) (a.put d y) := by
  cases d with
  | none => exact r
  | some d =>
    refine ⟨by simp [putT, Act.put, r.size], fun j z hz => ?_, r.defers⟩
    simp only [putT] at hz
    rw [List.getElem?_set] at hz
    show VRel I m z ((a.tmps.setIfInBounds d y).getD j undef)
    rw [Array.getD_eq_getD_getElem?, Array.getElem?_setIfInBounds]
    by_cases e : d = j
    · subst e
      rw [if_pos rfl] at hz ⊢
      split at hz
      · rename_i hlt
        obtain rfl := Option.some.inj hz
        rw [if_pos (by rw [← r.size]; exact hlt)]
        exact hx
      · cases hz
    · rw [if_neg e] at hz ⊢
      have := r.rel j z hz
      rwa [Array.getD_eq_getD_getElem?] at this

theorem ofValue_sound (v : Value) : VRel I m (ofValue v) v := by
  unfold ofValue
  split
  · rename_i cs
    have := rels_v (I := I) (m := m) cs.toList
    have := VRel.agg (I := I) (m := m) (cs.toList.map A.v) cs.toList this.1 this.2
    simpa using this
  · rename_i f fs cs
    split
    · rename_i hc
      simp only [Bool.and_eq_true, decide_eq_true_eq] at hc
      obtain rfl : fs = #[] := Array.eq_empty_of_size_eq_zero hc.1.1
      obtain rfl : cs = #[] := Array.eq_empty_of_size_eq_zero hc.1.2
      exact .fn f hc.2 [] [] rfl (fun j x y hx _ => by simp at hx)
    · exact .any _
  · exact .flat (.v _)

theorem ofOp_sound {t : List A} {a : Act} (r : TRel I m t a) (x : Operand) : VRel I m (ofOp t x) (a.eval x) := by
  cases x with
  | tmp i =>
    simp only [ofOp, Act.eval]
    cases hi : t[i]? with
    | none => rw [List.getD_eq_getElem?_getD, hi]; exact .any _
    | some x => rw [List.getD_eq_getElem?_getD, hi]; exact r.rel i x hi
  | const v => exact ofValue_sound v
  | global g => exact .flat (.v _)
  | func f =>
    simp only [ofOp]
    split
    · rename_i hlt; exact .fn f hlt [] [] rfl (fun j x y hx _ => by simp at hx)
    · exact .any _

theorem ofOps_sound {t : List A} {a : Act} (r : TRel I m t a) (xs : List Operand) : Rels I m (xs.map (ofOp t)) (xs.map a.eval) := ⟨by simp, fun j x y hx hy => by
  rw [List.getElem?_map] at hx hy
  cases hj : xs[j]? with
  | none => simp [hj] at hx
  | some o => simp [hj] at hx hy; subst hx; subst hy; exact ofOp_sound r o⟩

theorem orel_sound {t : List A} {a : Act} (r : TRel I m t a) (x : Option Operand) : ORel I m (x.map (ofOp t)) (x.map a.eval) := by
  cases x with
  | none => trivial
  | some x => exact ofOp_sound r x

theorem parts_sound {t : List A} {a : Act} (r : TRel I m t a) (ps : Array (Nat × Operand)) : (ps.toList.map fun (i, x) => (i, ofOp t x)).length = (ps.map fun (i, x) => (i, a.eval x)).size ∧
    ∀ (j : Nat) p q, (ps.toList.map fun (i, x) => (i, ofOp t x))[j]? = some p → (ps.map fun (i, x) => (i, a.eval x)).toList[j]? = some q → p.1 = q.1 ∧ VRel I m p.2 q.2 := by
  refine ⟨by simp, fun j p q hp hq => ?_⟩
  rw [Array.toList_map, List.getElem?_map] at hq
  rw [List.getElem?_map] at hp
  cases hj : ps.toList[j]? with
  | none => simp [hj] at hp
  | some o => simp [hj] at hp hq; subst hp; subst hq; exact ⟨rfl, ofOp_sound r _⟩

theorem Rels.append {xs xs' : List A} {ys ys' : List Value} (h : Rels I m xs ys) (k : Rels I m xs' ys') : Rels I m (xs ++ xs') (ys ++ ys') := ⟨by simp [h.1, k.1], fun j x y hx hy => by
  rcases Nat.lt_or_ge j xs.length with hj | hj
  · rw [List.getElem?_append_left hj] at hx
    rw [List.getElem?_append_left (by rw [← h.1]; exact hj)] at hy
    exact h.2 j x y hx hy
  · rw [List.getElem?_append_right hj] at hx
    rw [List.getElem?_append_right (by rw [← h.1]; exact hj), ← h.1] at hy
    exact k.2 _ x y hx hy⟩

/-- The general end of an operation that yields a value. -/
theorem op_end {o : Oper} {a : Act} {K : Act → World → Prop} {Q : Exit → Act → World → Prop} {s : Sem Value} {y : Value} {w' : World} (ho : execOp a.eval o = (do pure (.value (← s)))) (hr : s.run P w = .ok y w') (hk : K (a.put o.dst y) w') : o.wp P a w K Q := by
  unfold Oper.wp
  rw [ho]
  simp only [Sem.run_bind, hr, Result.andThen_ok, Sem.run_pure]
  exact hk

theorem tup_sound {xs : List A} {y : Value} (hx : VRel I m (.tup xs) y) : ∃ ys : List Value, y = .tuple ys.toArray ∧ Rels I m xs ys := by
  cases hx with
  | flat hf => cases hf
  | tup _ ys hl hh => exact ⟨ys, rfl, hl, hh⟩

theorem fn_sound {f : FuncId} {xs : List A} {y : Value} (hx : VRel I m (.fn f xs) y) :
    (f < 1000000 ∧ ∃ ys : List Value, y = .func (.func f) #[] ys.toArray ∧ Rels I m xs ys) ∨ ∃ (g : FuncId) (ys : List Value), f = g + 1000000 ∧ y = .func (.func g) ys.toArray #[] ∧ Rels I m xs ys := by
  cases hx with
  | flat hf => cases hf
  | fn _ hlt _ ys hl hh => exact .inl ⟨hlt, ys, rfl, hl, hh⟩
  | bfn g _ ys hl hh => exact .inr ⟨g, ys, rfl, rfl, hl, hh⟩

theorem sound_op {F : Fns} (hF : Sound P F) {o : Oper} {t : List A} {a : Act} {z : A} {h' : List Ob} {K : Act → World → Prop} {Q : Exit → Act → World → Prop} (r : Rel I m h w) (tr : TRel I m t a) (he : evOp (tab P) F o t h = some (z, h'))
    (hK : ∀ I' m' y w', Step I m h w I' m' h' w' → VRel I' m' z y → K (a.put o.dst y) w') : o.wp P a w K Q := by
  have same : ∀ y, VRel I m z y → h' = h → K (a.put o.dst y) w := fun y hy e => hK I m y w (by rw [e]; exact Step.refl r) hy
  unfold evOp at he
  dsimp only at he
  split at he
  · rename_i x hop
    obtain ⟨rfl, rfl⟩ := Prod.mk.inj (Option.some.inj he)
    unfold Oper.wp execOp
    simp only [hop, Sem.run_pure]
    exact same _ (ofOp_sound tr x) rfl
  · rename_i x hop
    obtain ⟨rfl, rfl⟩ := Prod.mk.inj (Option.some.inj he)
    unfold Oper.wp execOp
    simp only [hop, Sem.run_pure]
    exact same _ (ofOp_sound tr x) rfl
  · rename_i c x y hop
    split at he
    · rename_i b hc
      obtain ⟨rfl, rfl⟩ := Prod.mk.inj (Option.some.inj he)
      have hcv := ofOp_sound tr c
      rw [hc] at hcv
      have hce := v_sound hcv
      unfold Oper.wp execOp
      simp only [hop, hce, asBool, Sem.run_bind, Sem.run_pure, Result.andThen_ok]
      refine same _ ?_ rfl
      cases b
      · exact ofOp_sound tr y
      · exact ofOp_sound tr x
    · cases he
  · rename_i e hop
    obtain ⟨m', y, w', hr, hs, hv⟩ := sound_alloc r he
    exact op_end (by unfold execOp; simp only [hop]) hr (hK I m' y w' hs hv)
  · rename_i e x hop
    obtain ⟨m', y, w', hr, hs, hv⟩ := sound_box r (ofOp_sound tr x) he
    exact op_end (by unfold execOp; simp only [hop]) hr (hK I m' y w' hs hv)
  · rename_i ty parts hop
    cases hb : evBuild (tab P) ty (parts.toList.map fun (i, x) => (i, ofOp t x)) with
    | none => rw [hb] at he; cases he
    | some q =>
      rw [hb] at he
      obtain ⟨rfl, rfl⟩ := Prod.mk.inj (Option.some.inj he)
      obtain ⟨y, hr, hv⟩ := sound_build (w := w) (parts_sound tr parts).1 (parts_sound tr parts).2 hb
      exact op_end (by unfold execOp; simp only [hop]) hr (same _ hv rfl)
  · rename_i ty len parts hop
    obtain ⟨m', y, w', hr, hs, hv⟩ := sound_buildSlice r (parts_sound tr parts).1 (parts_sound tr parts).2 he
    exact op_end (by unfold execOp; simp only [hop]) hr (hK I m' y w' hs hv)
  · rename_i ty x hop
    cases hb : evLoad (tab P) ty (ofOp t x) h with
    | none => rw [hb] at he; cases he
    | some q =>
      rw [hb] at he
      obtain ⟨rfl, rfl⟩ := Prod.mk.inj (Option.some.inj he)
      obtain ⟨y, hr, hv⟩ := sound_load r (ofOp_sound tr x) hb
      exact op_end (by unfold execOp; simp only [hop]) hr (same _ hv rfl)
  · rename_i ty x y hop
    cases hb : evStore (tab P) ty (ofOp t x) (ofOp t y) h with
    | none => rw [hb] at he; cases he
    | some q =>
      rw [hb] at he
      obtain ⟨rfl, rfl⟩ := Prod.mk.inj (Option.some.inj he)
      obtain ⟨w', hr, hs⟩ := sound_store r (ofOp_sound tr x) (ofOp_sound tr y) hb
      unfold Oper.wp execOp
      simp only [hop, Sem.run_bind, hr, Result.andThen_ok, Sem.run_pure]
      exact hK I m undef w' hs (.flat (.v _))
  · rename_i x hop
    have hx := ofOp_sound tr x
    split at he
    · rename_i i off hc
      obtain ⟨rfl, rfl⟩ := Prod.mk.inj (Option.some.inj he)
      rw [hc] at hx
      obtain ⟨ad, had⟩ := ptr_val hx
      unfold Oper.wp execOp
      rw [had] at hx
      simp only [hop, had, Sem.run_pure]
      exact same _ hx rfl
    · rename_i cs hc
      obtain ⟨rfl, rfl⟩ := Prod.mk.inj (Option.some.inj he)
      rw [hc] at hx
      obtain ⟨ad, had⟩ := fp_val hx
      unfold Oper.wp execOp
      rw [had] at hx
      simp only [hop, had, Sem.run_pure]
      exact same _ hx rfl
    · cases he
  · rename_i op ty x y ty' hop
    have hx := ofOp_sound tr x
    have hy := ofOp_sound tr y
    split at he
    · rename_i q hb
      obtain ⟨rfl, rfl⟩ := Prod.mk.inj (Option.some.inj he)
      obtain ⟨u, hr, hv⟩ := sound_bin (P := P) (w := w) hx hy ty x y hb
      exact op_end (by unfold execOp; simp only [hop]) hr (same _ hv rfl)
    · cases hb : evEqOp (tab P) op ty (ofOp t x) (ofOp t y) with
      | none => rw [hb] at he; cases he
      | some q =>
        rw [hb] at he
        obtain ⟨rfl, rfl⟩ := Prod.mk.inj (Option.some.inj he)
        obtain ⟨u, hr, hv⟩ := sound_eqOp (P := P) (w := w) hx hy x y hb
        exact op_end (by unfold execOp; simp only [hop]) hr (same _ hv rfl)
  · rename_i op ty x hop
    cases hb : evUn op (ofOp t x) with
    | none => rw [hb] at he; cases he
    | some q =>
      rw [hb] at he
      obtain ⟨rfl, rfl⟩ := Prod.mk.inj (Option.some.inj he)
      obtain ⟨u, hr, hv⟩ := sound_un (P := P) (w := w) (ofOp_sound tr x) hb
      exact op_end (by unfold execOp; simp only [hop]) hr (same _ hv rfl)
  · rename_i src dst x hop
    obtain ⟨m', y, w', hr, hs, hv⟩ := sound_convert r (ofOp_sound tr x) he
    exact op_end (by unfold execOp; simp only [hop]) hr (hK I m' y w' hs hv)
  · rename_i arr x hop
    cases hb : evToArr (tab P) arr (ofOp t x) with
    | none => rw [hb] at he; cases he
    | some q =>
      rw [hb] at he
      obtain ⟨rfl, rfl⟩ := Prod.mk.inj (Option.some.inj he)
      obtain ⟨u, hr, hv⟩ := sound_toArr (P := P) (w := w) (ofOp_sound tr x) hb
      exact op_end (by unfold execOp; simp only [hop]) hr (same _ hv rfl)
  · rename_i fn first caps hop
    split at he
    · rename_i f
      split at he
      · rename_i hfs
        obtain rfl : first = #[] := Array.eq_empty_of_size_eq_zero hfs
        split at he
        · rename_i hlt
          obtain ⟨rfl, rfl⟩ := Prod.mk.inj (Option.some.inj he)
          have hc := ofOps_sound tr caps.toList
          refine op_end (s := Instr.makeFunc (.func f) #[] (caps.map a.eval)) (y := .func (.func f) #[] (caps.toList.map a.eval).toArray) (by unfold execOp; simp only [hop, Array.map_empty]) ?_ (same _ (.fn f hlt _ _ hc.1 hc.2) rfl)
          simp only [Instr.makeFunc, Sem.run_pure, Result.ok.injEq, Value.func.injEq, true_and, and_true]
          apply Array.ext'
          simp
        · cases he
      · split at he
        · rename_i hcs
          obtain rfl : caps = #[] := Array.eq_empty_of_size_eq_zero hcs
          obtain ⟨rfl, rfl⟩ := Prod.mk.inj (Option.some.inj he)
          have hc := ofOps_sound tr first.toList
          refine op_end (s := Instr.makeFunc (.func f) (first.map a.eval) #[]) (y := .func (.func f) (first.toList.map a.eval).toArray #[]) (by unfold execOp; simp only [hop, Array.map_empty]) ?_ (same _ (.bfn f _ _ hc.1 hc.2) rfl)
          simp only [Instr.makeFunc, Sem.run_pure, Result.ok.injEq, Value.func.injEq, true_and, and_true]
          apply Array.ext'
          simp
        · cases he
    · cases he
  · rename_i ty l c hop
    obtain ⟨m', y, w', hr, hs, hv⟩ := sound_makeSlice r (ofOp_sound tr l) (ofOp_sound tr c) he
    exact op_end (by unfold execOp; simp only [hop]) hr (hK I m' y w' hs hv)
  · rename_i ty x lo hi mx hop
    cases hb : evSlice (tab P) ty (ofOp t x) (lo.map (ofOp t)) (hi.map (ofOp t)) (mx.map (ofOp t)) h with
    | none => rw [hb] at he; cases he
    | some q =>
      rw [hb] at he
      obtain ⟨rfl, rfl⟩ := Prod.mk.inj (Option.some.inj he)
      obtain ⟨u, hr, hv⟩ := sound_slice r (ofOp_sound tr x) (orel_sound tr lo) (orel_sound tr hi) (orel_sound tr mx) hb
      exact op_end (by unfold execOp; simp only [hop]) hr (same _ hv rfl)
  · rename_i ty x f hop
    cases hb : evFieldAddr (tab P) ty (ofOp t x) f with
    | none => rw [hb] at he; cases he
    | some q =>
      rw [hb] at he
      obtain ⟨rfl, rfl⟩ := Prod.mk.inj (Option.some.inj he)
      obtain ⟨u, hr, hv⟩ := sound_fieldAddr (P := P) (w := w) (ofOp_sound tr x) hb
      exact op_end (by unfold execOp; simp only [hop]) hr (same _ hv rfl)
  · rename_i ty x f hop
    cases hb : evField (tab P) ty (ofOp t x) f with
    | none => rw [hb] at he; cases he
    | some q =>
      rw [hb] at he
      obtain ⟨rfl, rfl⟩ := Prod.mk.inj (Option.some.inj he)
      obtain ⟨u, hr, hv⟩ := sound_field (P := P) (w := w) (ofOp_sound tr x) hb
      exact op_end (by unfold execOp; simp only [hop]) hr (same _ hv rfl)
  · rename_i ty x ix hop
    cases hb : evIndexAddr (tab P) ty (ofOp t x) (ofOp t ix) with
    | none => rw [hb] at he; cases he
    | some q =>
      rw [hb] at he
      obtain ⟨rfl, rfl⟩ := Prod.mk.inj (Option.some.inj he)
      obtain ⟨u, hr, hv⟩ := sound_indexAddr (P := P) (w := w) (ofOp_sound tr x) (ofOp_sound tr ix) hb
      exact op_end (by unfold execOp; simp only [hop]) hr (same _ hv rfl)
  · rename_i ty x ix hop
    cases hb : evIndex (tab P) ty (ofOp t x) (ofOp t ix) with
    | none => rw [hb] at he; cases he
    | some q =>
      rw [hb] at he
      obtain ⟨rfl, rfl⟩ := Prod.mk.inj (Option.some.inj he)
      obtain ⟨u, hr, hv⟩ := sound_index (P := P) (w := w) (ofOp_sound tr x) (ofOp_sound tr ix) hb
      exact op_end (by unfold execOp; simp only [hop]) hr (same _ hv rfl)
  · rename_i x ix hop
    have hx := ofOp_sound tr x
    split at he
    · rename_i xs hc
      cases hb : xs[ix]? with
      | none => rw [hb] at he; cases he
      | some q =>
        rw [hb] at he
        obtain ⟨rfl, rfl⟩ := Prod.mk.inj (Option.some.inj he)
        rw [hc] at hx
        obtain ⟨ys, hv, hr⟩ := tup_sound hx
        have hlt : ix < ys.length := by have := (List.getElem?_eq_some_iff.1 hb).1; have := hr.1; omega
        refine op_end (s := Instr.extract (a.eval x) ix) (y := ys[ix]) (by unfold execOp; simp only [hop]) ?_ (same _ (hr.2 ix _ _ hb (List.getElem?_eq_getElem hlt)) rfl)
        rw [hv]
        simp only [Instr.extract, List.getElem?_toArray, List.getElem?_eq_getElem hlt, Sem.run_pure]
    · cases he
  · rename_i c hop
    have bi : ∀ (b : Builtin) (s : Sem Value), c.callee = .builtin b → (∀ ty consts, builtin b c.argTypes ty consts (c.args.map a.eval) = (do pure (.value (← (fun _ => s) ty)))) → execOp a.eval o = (do pure (.value (← s))) := by
      intro b s hcal hbi
      unfold execOp
      simp only [hop, resolve, hcal, invoke]
      exact hbi _ _
    have margs : ∀ l : List Operand, c.args.toList = l → c.args.map a.eval = (l.map a.eval).toArray := fun l hl => by
      apply Array.ext'
      simp [hl]
    split at he
    · rename_i f hcal
      split at he
      · rename_i g caps hf
        have hfv := ofOp_sound tr f
        rw [hf] at hfv
        have hargs := ofOps_sound tr c.args.toList
        have fin : ∀ (gg : FuncId) (al : List Value), CallsV P gg al.toArray w (fun v w'' => ∃ I' m', Step I m h w I' m' h' w'' ∧ VRel I' m' z v) → execOp a.eval o = callFunc gg al.toArray → o.wp P a w K Q := by
          intro gg al good hex
          unfold Oper.wp
          rw [hex]
          unfold CallsV at good
          revert good
          generalize (callFunc gg al.toArray).run P w = rr
          intro good
          split at good
          · refine Calls.mono good fun e w'' hR => ?_
            cases e with
            | returned v => obtain ⟨I', m', hs, hv⟩ := hR; exact hK I' m' v w'' hs hv
            | panicked ch => exact hR.elim
            | outgrown => exact hR.elim
          · obtain ⟨I', m', hs, hv⟩ := good
            exact hK I' m' _ _ hs hv
          · exact good.elim
        rcases fn_sound hfv with ⟨hlt, ys, hfe, hcaps⟩ | ⟨g', ys, hgg, hfe, hcaps⟩
        · rw [if_pos hlt] at he
          refine fin g (c.args.toList.map a.eval ++ ys) (hF _ _ _ _ _ he I m w _ r (Rels.append hargs hcaps)) ?_
          unfold execOp
          simp only [hop, resolve, hcal, hfe, Deferred.ofValue]
          show invoke (.fn (.func g) ys.toArray) (#[] ++ c.args.map a.eval) = _
          simp only [invoke]
          congr 1
          apply Array.ext'
          simp
        · subst hgg
          rw [if_neg (Nat.not_lt.2 (Nat.le_add_left 1000000 g')), show g' + 1000000 - 1000000 = g' from Nat.add_sub_cancel ..] at he
          refine fin g' (ys ++ c.args.toList.map a.eval) (hF _ _ _ _ _ he I m w _ r (Rels.append hcaps hargs)) ?_
          unfold execOp
          simp only [hop, resolve, hcal, hfe, Deferred.ofValue]
          show invoke (.fn (.func g') #[]) (ys.toArray ++ c.args.map a.eval) = _
          simp only [invoke]
          congr 1
          apply Array.ext'
          simp
      · cases he
    · rename_i hcal
      split at he
      · rename_i x ty h1 h2
        cases hb : evLen (tab P) ty (ofOp t x) h with
        | none => rw [hb] at he; cases he
        | some q =>
          rw [hb] at he
          obtain ⟨rfl, rfl⟩ := Prod.mk.inj (Option.some.inj he)
          obtain ⟨u, hr, hv⟩ := sound_len (P := P) r (ty := o.type) (ofOp_sound tr x) hb
          have ht : c.argTypes = #[ty] := by rw [← Array.toArray_toList (xs := c.argTypes), h2]
          refine op_end (s := Builtin.len_ #[ty] o.type #[a.eval x]) ?_ hr (same _ hv rfl)
          unfold execOp
          simp only [hop, resolve, hcal, invoke, builtin, ht, margs _ h1]
          rfl
      · cases he
    · rename_i hcal
      split at he
      · rename_i s x h1
        obtain ⟨I', m', u, w', hr, hs, hv⟩ := sound_append (P := P) r o.type (ofOp_sound tr s) (ofOp_sound tr x) he
        refine op_end (s := Builtin.append_ c.argTypes o.type #[a.eval s, a.eval x]) ?_ hr (hK _ _ _ _ hs hv)
        unfold execOp
        simp only [hop, resolve, hcal, invoke, builtin, margs _ h1]
        rfl
      · cases he
    · rename_i hcal
      split at he
      · rename_i s x h1
        obtain ⟨u, w', hr, hs, hv⟩ := sound_copy (P := P) r o.type (ofOp_sound tr s) (ofOp_sound tr x) he
        refine op_end (s := Builtin.copy_ c.argTypes o.type #[a.eval s, a.eval x]) ?_ hr (hK _ _ _ _ hs hv)
        unfold execOp
        simp only [hop, resolve, hcal, invoke, builtin, margs _ h1]
        rfl
      · cases he
    · rename_i hcal
      split at he
      · rename_i x l h1
        cases hb : evFold true (ofOp t x) (l.map (ofOp t)) with
        | none => rw [hb] at he; cases he
        | some q =>
          rw [hb] at he
          obtain ⟨rfl, rfl⟩ := Prod.mk.inj (Option.some.inj he)
          obtain ⟨u, hr, hv⟩ := sound_fold (P := P) (w := w) (ofOp_sound tr x) (ofOps_sound tr l) hb
          refine op_end (s := (l.map a.eval).foldlM Builtin.min2 (a.eval x)) ?_ hr (same _ hv rfl)
          unfold execOp
          simp only [hop, resolve, hcal, invoke, builtin, margs _ h1]
          rfl
      · cases he
    · rename_i hcal
      split at he
      · rename_i x l h1
        cases hb : evFold false (ofOp t x) (l.map (ofOp t)) with
        | none => rw [hb] at he; cases he
        | some q =>
          rw [hb] at he
          obtain ⟨rfl, rfl⟩ := Prod.mk.inj (Option.some.inj he)
          obtain ⟨u, hr, hv⟩ := sound_fold (P := P) (w := w) (ofOp_sound tr x) (ofOps_sound tr l) hb
          refine op_end (s := (l.map a.eval).foldlM Builtin.max2 (a.eval x)) ?_ hr (same _ hv rfl)
          unfold execOp
          simp only [hop, resolve, hcal, invoke, builtin, margs _ h1]
          rfl
      · cases he
    · cases he
  · cases he

theorem yields_sound {all : Array Oper} {t : List A} {a : Act} (tr : TRel I m t a) {j : Nat} {y : Option Bool} (he : yields? all.toList t j = some y) : yielded all a.tmps j = y := by
  unfold yields? at he
  unfold yielded
  split at he
  · rename_i o ho
    rw [Array.getElem?_toList] at ho
    split at he
    · rename_i d hd
      have val : ∀ v, t[d]? = some (.v v) → a.tmps[d]? = some v := fun v hv => by
        have hlt : d < a.tmps.size := by rw [← tr.size]; exact (List.getElem?_eq_some_iff.1 hv).1
        have := v_sound (tr.rel d _ hv)
        rw [Array.getD_eq_getD_getElem?, Array.getElem?_eq_getElem hlt] at this
        rw [Array.getElem?_eq_getElem hlt]
        exact congrArg some this
      split at he
      · rename_i b hb
        obtain rfl := Option.some.inj he
        simp only [ho, Option.bind_some, hd, val _ hb]
      · rename_i v hv hne
        obtain rfl := Option.some.inj he
        simp only [ho, Option.bind_some, hd, val _ hne]
        split
        · rename_i b hb
          obtain rfl := Option.some.inj hb
          exact (hv b rfl).elim
        · rfl
      · cases he
    · cases he
  · cases he

theorem wanted_sound {all : Array Oper} {t : List A} {a : Act} (tr : TRel I m t a) {o : Oper} {b : Bool} (he : wanted? all.toList t o = some b) : Region.wanted o (yielded all a.tmps) = b := by
  unfold wanted? at he
  unfold Region.wanted
  split at he
  · rename_i hg
    obtain rfl := Option.some.inj he
    simp only [hg]
  · rename_i j want hg
    cases hy : yields? all.toList t j with
    | none => simp [hy] at he
    | some y =>
      simp only [hy, Option.map_some, Option.some.injEq] at he
      simp only [hg, yields_sound tr hy, he]

/-- A list of operations, in order. -/
theorem sound_ops {F : Fns} (hF : Sound P F) {all : Array Oper} {Q : Exit → Act → World → Prop} : ∀ {l : List Oper} {t : List A} {h h' : List Ob} {t' : List A} {a : Act} {I : Imm} {m : List Loc} {w : World},
    Rel I m h w → TRel I m t a → evOps (tab P) F all.toList l ⟨t, h⟩ = some ⟨t', h'⟩ →
    (∀ I' m' a' w', Step I m h w I' m' h' w' → TRel I' m' t' a' → Q .normal a' w') → wpList P all Q l a w
  | [], t, h, h', t', a, I, m, w, r, tr, he, hQ => by
    obtain ⟨rfl, rfl⟩ := St.mk.inj (Option.some.inj he)
    exact wpList_nil (hQ I m a w (Step.refl r) tr)
  | o :: l, t, h, h', t', a, I, m, w, r, tr, he, hQ => by
    simp only [evOps] at he
    split at he
    · rename_i hw
      split at he
      · rename_i x h1 hop
        refine wpList_step fun K hK => ?_
        rw [wanted_sound tr hw, if_pos rfl]
        refine sound_op hF r tr hop fun I1 m1 y w1 hs hv => hK _ _ ?_
        exact sound_ops hF hs.rel ((tr.mono hs.ile hs.mle).put o.dst hv) he fun I2 m2 a2 w2 hs2 tr2 => hQ I2 m2 a2 w2 (hs.trans hs2) tr2
      · cases he
    · rename_i hw
      refine wpList_step fun K hK => ?_
      rw [wanted_sound tr hw, if_neg (by decide)]
      refine hK _ _ ?_
      exact sound_ops hF r (tr.put o.dst (.flat (.v _))) he fun I2 m2 a2 w2 hs2 tr2 => hQ I2 m2 a2 w2 hs2 tr2
    · cases he

end
end Go.Flat
