/-
  Code, and a function's body.
-/
import Derived.Test.YtldpbpgceplejaaFlatJ
import Derived.LoopN
import Derived.Scope
namespace Go.Flat

inductive Out where
  | normal (s : St)
  | ret (s : St)
  | exit (id : Nat) (s : St)

def evLoop (f : St → Option Out) (cl : St → Option St) : Nat → St → Option Out
  | 0, _ => none
  | n + 1, s =>
    match cl s with
    | none => none
    | some s1 =>
      match f s1 with
      | none => none
      | some (.normal s2) => evLoop f cl n s2
      | some (.ret s2) => some (.ret s2)
      | some (.exit id s2) => some (.exit id s2)

/-- The number of the first region in a code: a loop's name. -/
def firstId : Code → Nat
  | .region id _ _ => id
  | .seq a _ => firstId a
  | .block _ b => firstId b
  | .loop b => firstId b
  | .scope b => firstId b
  | _ => 0

/-- np: so many objects were handed in; K: what is kept at a loop's head; D: how a region is gone through whose order is open; n: so many rounds at most. -/
def evCode (τ : Tab) (F : Fns) (D : List Oper → St → Option St) (np : Nat) (K : Nat → List Nat) (n : Nat) : Code → St → Option Out
  | .skip, s => some (.normal s)
  | .region _ ops draw, s =>
    match (if draw then D ops.toList s else evOps τ F ops.toList ops.toList s) with
    | some s' => some (.normal s')
    | none => none
  | .seq a b, s =>
    match evCode τ F D np K n a s with
    | none => none
    | some (.normal s1) => evCode τ F D np K n b s1
    | some (.ret s1) => some (.ret s1)
    | some (.exit id s1) => some (.exit id s1)
  | .cond c a b, s =>
    match ofOp s.t c with
    | .v (.bool x) => if x then evCode τ F D np K n a s else evCode τ F D np K n b s
    | _ => none
  | .block id a, s =>
    match evCode τ F D np K n a s with
    | none => none
    | some (.normal s1) => some (.normal s1)
    | some (.ret s1) => some (.ret s1)
    | some (.exit id' s1) => if id' = id then some (.normal s1) else some (.exit id' s1)
  | .loop a, s => evLoop (evCode τ F D np K n a) (clean np (K (firstId a))) n s
  | .exit id, s => some (.exit id s)
  | .ret, s => some (.ret s)
  | .scope a, s => evCode τ F D np K n a s
  | .label _, s => some (.normal s)
  | _, _ => none

def evResult (τ : Tab) (t : List A) (h : List Ob) : ResultVar → Option A
  | .tmp i => some (t.getD i .any)
  | .cell a ty => evLoad τ ty (t.getD a .any) h

def evResults (τ : Tab) (t : List A) (h : List Ob) : List ResultVar → Option (List A)
  | [] => some []
  | r :: rs => match evResult τ t h r with | some x => (match evResults τ t h rs with | some xs => some (x :: xs) | none => none) | none => none

def tupA : List A → A
  | [x] => x
  | xs => .tup xs

/-- What a function's end leaves: its answer, and the objects that can be reached still. -/
def evEnd (τ : Tab) (fn : Func) (np : Nat) (s : St) : Option (A × List Ob) :=
  match evResults τ s.t s.h fn.results.toList with
  | none => none
  | some xs =>
    match gc np ⟨[tupA xs], s.h⟩ with
    | some ⟨[r], h⟩ => some (r, h)
    | _ => none

def frame (fn : Func) (args : List A) : List A := args ++ List.replicate (fn.ntmps - args.length) (.v undef)

def evBody (τ : Tab) (F : Fns) (D : List Oper → St → Option St) (K : Nat → List Nat) (n : Nat) (fn : Func) (c : Code) (args : List A) (h : List Ob) : Option (A × List Ob) :=
  match evCode τ F D h.length K n c ⟨frame fn args, h⟩ with
  | some (.normal s) => evEnd τ fn h.length s
  | some (.ret s) => evEnd τ fn h.length s
  | _ => none

section
variable {P : Program}

/-- All regions whose order is open are of a kind. -/
def codeAll (C : List Oper → Bool) : Code → Bool
  | .region _ ops draw => if draw then C ops.toList else true
  | .seq a b => codeAll C a && codeAll C b
  | .cond _ a b => codeAll C a && codeAll C b
  | .block _ a => codeAll C a
  | .loop a => codeAll C a
  | .scope a => codeAll C a
  | _ => true

/-- How a region is gone through whose order is open is right. -/
def DSound (P : Program) (C : List Oper → Bool) (D : List Oper → St → Option St) : Prop :=
  ∀ (ops : Array Oper) (id : Nat), C ops.toList = true → ∀ (Q : Exit → Act → World → Prop) (t : List A) (h : List Ob) (t' : List A) (h' : List Ob) (a : Act) (I : Imm) (m : List Loc) (w : World), Rel I m h w → TRel I m t a → D ops.toList ⟨t, h⟩ = some ⟨t', h'⟩ →
    (∀ I' m' a' w', Step I m h w I' m' h' w' → TRel I' m' t' a' → Q .normal a' w') → (Code.region id ops true).wp P Q a w

theorem DSound.none (P : Program) (C : List Oper → Bool) : DSound P C (fun _ _ => none) := fun _ _ _ _ _ _ _ _ _ _ _ _ _ _ he => by cases he

def OutQ (I0 : Imm) (m0 : List Loc) (h0 : List Ob) (w0 : World) (Q : Exit → Act → World → Prop) : Out → Prop
  | .normal s => ∀ I m a w, Step I0 m0 h0 w0 I m s.h w → TRel I m s.t a → Q .normal a w
  | .ret s => ∀ I m a w, Step I0 m0 h0 w0 I m s.h w → TRel I m s.t a → Q .ret a w
  | .exit id s => ∀ I m a w, Step I0 m0 h0 w0 I m s.h w → TRel I m s.t a → Q (.exit id) a w

variable {I0 : Imm} {m0 : List Loc} {h0 : List Ob} {w0 : World}

theorem sound_loop {f : St → Option Out} {cl : St → Option St} {c : Code} {Q : Exit → Act → World → Prop}
    (hcl : ∀ {s s' I m w a}, Step I0 m0 h0 w0 I m s.h w → TRel I m s.t a → cl s = some s' → ∃ m', Step I0 m0 h0 w0 I m' s'.h w ∧ TRel I m' s'.t a)
    (hf : ∀ {s out I m w a} {Q : Exit → Act → World → Prop}, Step I0 m0 h0 w0 I m s.h w → TRel I m s.t a → f s = some out → OutQ I0 m0 h0 w0 Q out → c.wp P Q a w) :
    ∀ (n : Nat) {s out I m w a}, Step I0 m0 h0 w0 I m s.h w → TRel I m s.t a → evLoop f cl n s = some out → OutQ I0 m0 h0 w0 Q out → Code.rounds P c Q n a w
  | 0, s, out, I, m, w, a, _, _, he, _ => by cases he
  | n + 1, s, out, I, m, w, a, st, tr, he, hq => by
    rw [rounds_succ]
    simp only [evLoop] at he
    split at he
    · cases he
    · rename_i s1 hs1
      obtain ⟨m1, st1, tr1⟩ := hcl st tr hs1
      split at he
      · cases he
      · rename_i s2 h2
        exact hf st1 tr1 h2 (fun I2 m2 a2 w2 st2 tr2 => sound_loop hcl hf n st2 tr2 he hq)
      · rename_i s2 h2
        obtain rfl := Option.some.inj he
        exact hf st1 tr1 h2 (fun I2 m2 a2 w2 st2 tr2 => hq I2 m2 a2 w2 st2 tr2)
      · rename_i id s2 h2
        obtain rfl := Option.some.inj he
        exact hf st1 tr1 h2 (fun I2 m2 a2 w2 st2 tr2 => hq I2 m2 a2 w2 st2 tr2)

theorem sound_code {F : Fns} (hF : Sound P F) {C : List Oper → Bool} {D : List Oper → St → Option St} (hD : DSound P C D) (r0 : Rel I0 m0 h0 w0) (K : Nat → List Nat) (n : Nat) : ∀ (c : Code) {s : St} {out : Out} {I : Imm} {m : List Loc} {w : World} {a : Act} {Q : Exit → Act → World → Prop}, codeAll C c = true →
    Step I0 m0 h0 w0 I m s.h w → TRel I m s.t a → evCode (tab P) F D h0.length K n c s = some out → OutQ I0 m0 h0 w0 Q out → c.wp P Q a w
  | .skip, s, out, I, m, w, a, Q, hc, st, tr, he, hq => by
    obtain rfl := Option.some.inj he
    exact wp_skip (hq I m a w st tr)
  | .region id ops draw, s, out, I, m, w, a, Q, hc, st, tr, he, hq => by
    simp only [evCode] at he
    split at he
    · rename_i s' h1
      obtain rfl := Option.some.inj he
      have key : ∀ I' m' a' w', Step I m s.h w I' m' s'.h w' → TRel I' m' s'.t a' → Q .normal a' w' := fun I' m' a' w' st' tr' => hq I' m' a' w' (st.trans st') tr'
      cases draw with
      | true => exact hD ops id (by simpa [codeAll] using hc) Q s.t s.h s'.t s'.h a I m w st.rel tr h1 key
      | false => exact wp_region_list (sound_ops hF (h' := s'.h) (t' := s'.t) st.rel tr h1 key)
    · cases he
  | .seq x y, s, out, I, m, w, a, Q, hc, st, tr, he, hq => by
    simp only [evCode] at he
    refine wp_seq ?_
    split at he
    · cases he
    · rename_i s1 h1
      exact sound_code hF hD r0 K n x (Bool.and_eq_true_iff.1 hc).1 st tr h1 (fun I1 m1 a1 w1 st1 tr1 => sound_code hF hD r0 K n y (Bool.and_eq_true_iff.1 hc).2 st1 tr1 he hq)
    · rename_i s1 h1
      obtain rfl := Option.some.inj he
      exact sound_code hF hD r0 K n x (Bool.and_eq_true_iff.1 hc).1 st tr h1 (fun I1 m1 a1 w1 st1 tr1 => hq I1 m1 a1 w1 st1 tr1)
    · rename_i id s1 h1
      obtain rfl := Option.some.inj he
      exact sound_code hF hD r0 K n x (Bool.and_eq_true_iff.1 hc).1 st tr h1 (fun I1 m1 a1 w1 st1 tr1 => hq I1 m1 a1 w1 st1 tr1)
  | .cond c x y, s, out, I, m, w, a, Q, hc, st, tr, he, hq => by
    simp only [evCode] at he
    split at he
    · rename_i b hb
      have hco := ofOp_sound tr c
      rw [hb] at hco
      refine wp_cond (v_sound hco) ?_
      cases b with
      | true => exact sound_code hF hD r0 K n x (Bool.and_eq_true_iff.1 hc).1 st tr he hq
      | false => exact sound_code hF hD r0 K n y (Bool.and_eq_true_iff.1 hc).2 st tr he hq
    · cases he
  | .block id x, s, out, I, m, w, a, Q, hc, st, tr, he, hq => by
    simp only [evCode] at he
    refine wp_block ?_
    split at he
    · cases he
    · rename_i s1 h1
      obtain rfl := Option.some.inj he
      exact sound_code hF hD r0 K n x hc st tr h1 (fun I1 m1 a1 w1 st1 tr1 => hq I1 m1 a1 w1 st1 tr1)
    · rename_i s1 h1
      obtain rfl := Option.some.inj he
      exact sound_code hF hD r0 K n x hc st tr h1 (fun I1 m1 a1 w1 st1 tr1 => hq I1 m1 a1 w1 st1 tr1)
    · rename_i id' s1 h1
      split at he
      · rename_i hid
        obtain rfl := Option.some.inj he
        refine sound_code hF hD r0 K n x hc st tr h1 (fun I1 m1 a1 w1 st1 tr1 => ?_)
        simp only [Exit.inBlock, hid, if_true]
        exact hq I1 m1 a1 w1 st1 tr1
      · rename_i hid
        obtain rfl := Option.some.inj he
        refine sound_code hF hD r0 K n x hc st tr h1 (fun I1 m1 a1 w1 st1 tr1 => ?_)
        simp only [Exit.inBlock, hid, if_false]
        exact hq I1 m1 a1 w1 st1 tr1
  | .loop x, s, out, I, m, w, a, Q, hc, st, tr, he, hq => by
    simp only [evCode] at he
    exact wp_loop_rounds n (sound_loop (fun st tr hcl => clean_sound r0 st tr hcl) (fun st tr h1 hq => sound_code hF hD r0 K n x hc st tr h1 hq) n st tr he hq)
  | .exit id, s, out, I, m, w, a, Q, hc, st, tr, he, hq => by
    obtain rfl := Option.some.inj he
    exact wp_exit (hq I m a w st tr)
  | .ret, s, out, I, m, w, a, Q, hc, st, tr, he, hq => by
    obtain rfl := Option.some.inj he
    exact wp_ret (hq I m a w st tr)
  | .scope x, s, out, I, m, w, a, Q, hc, st, tr, he, hq => by
    simp only [evCode] at he
    refine wp_scope_straight (sound_code hF hD r0 K n x hc st tr he ?_)
    cases out <;> exact hq
  | .label l, s, out, I, m, w, a, Q, hc, st, tr, he, hq => by
    obtain rfl := Option.some.inj he
    exact wp_label (hq I m a w st tr)
  | .rangeFunc .., s, out, I, m, w, a, Q, hc, st, tr, he, hq => by cases he
  | .goto _, s, out, I, m, w, a, Q, hc, st, tr, he, hq => by cases he
  | .refuse _, s, out, I, m, w, a, Q, hc, st, tr, he, hq => by cases he

theorem sound_results {I : Imm} {m : List Loc} {h : List Ob} {w : World} {t : List A} {a : Act} (r : Rel I m h w) (tr : TRel I m t a) : ∀ {rs : List ResultVar} {xs : List A}, evResults (tab P) t h rs = some xs →
    ∃ ys : List Value, (rs.mapM (fun (r : ResultVar) => match r with | .tmp t => (pure (a.tmps.getD t undef) : Sem Value) | .cell ad t => do loadVar t (← asAddr (a.tmps.getD ad undef)))).run P w = .ok ys w ∧ Rels I m xs ys
  | [], xs, he => by
    obtain rfl := Option.some.inj he
    exact ⟨[], rfl, rfl, fun j x y hx _ => by simp at hx⟩
  | r1 :: rs, xs, he => by
    simp only [evResults] at he
    split at he
    · rename_i x hx
      split at he
      · rename_i xs' hxs
        obtain rfl := Option.some.inj he
        obtain ⟨ys, hys, hr⟩ := sound_results r tr hxs
        have tv : ∀ i, VRel I m (t.getD i .any) (a.tmps.getD i undef) := fun i => ofOp_sound tr (.tmp i)
        have one : ∃ y, ((match r1 with | .tmp t => (pure (a.tmps.getD t undef) : Sem Value) | .cell ad t => do loadVar t (← asAddr (a.tmps.getD ad undef))).run P w = .ok y w) ∧ VRel I m x y := by
          cases r1 with
          | tmp i => obtain rfl := Option.some.inj hx; exact ⟨_, rfl, tv i⟩
          | cell ad ty =>
            obtain ⟨y, hy, hv⟩ := sound_load (P := P) r (tv ad) hx
            refine ⟨y, ?_, hv⟩
            have : ∃ q, a.tmps.getD ad undef = .pointer (some q) := by
              revert hy
              generalize a.tmps.getD ad undef = u
              intro hy
              cases u with
              | pointer p =>
                cases p with
                | some q => exact ⟨q, rfl⟩
                | none => simp [Instr.loadAt, Instr.sureAddr, stuck, Sem.run] at hy
              | _ => simp [Instr.loadAt, Instr.sureAddr, stuck, Sem.run] at hy
            obtain ⟨q, hq⟩ := this
            simp only [hq, Instr.loadAt, Instr.sureAddr, Sem.run_bind, Sem.run_pure, Result.andThen_ok] at hy
            simp only [hq, asAddr, Sem.run_bind, Sem.run_pure, Result.andThen_ok, hy]
        obtain ⟨y, hy, hv⟩ := one
        refine ⟨y :: ys, ?_, by simp [hr.1], fun j a b ha hb => ?_⟩
        · simp only [List.mapM_cons, Sem.run_bind, hy, Result.andThen_ok, hys, Sem.run_pure]
        · cases j with
          | zero => simp at ha hb; subst ha; subst hb; exact hv
          | succ j => exact hr.2 j a b (by simpa using ha) (by simpa using hb)
      · cases he
    · cases he

theorem tup_rel {I : Imm} {m : List Loc} {xs : List A} {ys : List Value} (hr : Rels I m xs ys) : VRel I m (tupA xs) (if h : ys.toArray.size = 1 then ys.toArray[0] else .tuple ys.toArray) := by
  match xs, ys, hr with
  | [], [], hr => exact .tup _ _ hr.1 hr.2
  | [x], [y], hr => exact hr.2 0 x y rfl rfl
  | x :: x' :: xs, y :: y' :: ys, hr => exact .tup _ _ hr.1 hr.2
  | [], y :: ys, hr => cases hr.1
  | [x], [], hr => cases hr.1
  | [x], y :: y' :: ys, hr => have := hr.1; simp at this
  | x :: x' :: xs, [], hr => cases hr.1
  | x :: x' :: xs, [y], hr => have := hr.1; simp at this

theorem sound_body {F : Fns} (hF : Sound P F) {C : List Oper → Bool} {D : List Oper → St → Option St} (hD : DSound P C D) (K : Nat → List Nat) (n : Nat) {f : FuncId} {fn : Func} {c : Code} (hc : codeAll C c = true) (hf : P.funcs[f]? = some fn) (hn : (fn.name == "runtime.NumGoroutine") = false) (hb : fn.body = some c)
    {args : List A} {h h' : List Ob} {r : A} (he : evBody (tab P) F D K n fn c args h = some (r, h')) : Good P f args h r h' := by
  intro I m w cargs rel hargs
  refine calls_of_body hf hn hb (calls_of_wp hf hb ?_)
  have tr : TRel I m (frame fn args) { tmps := cargs.toArray ++ Array.replicate (fn.ntmps - cargs.toArray.size) undef, defers := [] } := by
    have hal := hargs.1
    refine ⟨by simp [frame, hal], fun j x hx => ?_, rfl⟩
    unfold frame at hx
    rw [Array.getD_eq_getD_getElem?]
    rcases Nat.lt_or_ge j args.length with hj | hj
    · rw [List.getElem?_append_left hj] at hx
      rw [Array.getElem?_append_left (by simpa [← hal] using hj), List.getElem?_toArray, List.getElem?_eq_getElem (by rw [← hal]; exact hj)]
      exact hargs.2 j x _ hx (List.getElem?_eq_getElem (by rw [← hal]; exact hj))
    · rw [List.getElem?_append_right hj, List.getElem?_replicate] at hx
      split at hx
      · rename_i hlt
        obtain rfl := Option.some.inj hx
        rw [Array.getElem?_append_right (by simpa [← hal] using hj), Array.getElem?_replicate, if_pos (by simpa [← hal] using hlt)]
        exact .flat (.v _)
      · cases hx
  have fin : ∀ s : St, evEnd (tab P) fn h.length s = some (r, h') → ∀ I1 m1 a w1, Step I m h w I1 m1 s.h w1 → TRel I1 m1 s.t a →
      a.defers = [] ∧ ∃ v, (results fn a.tmps).run P w1 = .ok v w1 ∧ ∃ I' m', Step I m h w I' m' h' w1 ∧ VRel I' m' r v := by
    intro s hs I1 m1 a w1 st tr1
    unfold evEnd at hs
    split at hs
    · cases hs
    · rename_i xs hxs
      obtain ⟨ys, hys, hr⟩ := sound_results st.rel tr1 hxs
      split at hs
      · rename_i r' h1 hg
        obtain ⟨rfl, rfl⟩ := Prod.mk.inj (Option.some.inj hs)
        obtain ⟨m', st', tr'⟩ := gc_sound (s := ⟨[tupA xs], s.h⟩) (a := ⟨#[if h : ys.toArray.size = 1 then ys.toArray[0] else .tuple ys.toArray], []⟩) rel st ⟨rfl, fun j x hx => by
          cases j with
          | zero => simp at hx; subst hx; exact tup_rel hr
          | succ j => simp at hx, rfl⟩ hg
        refine ⟨tr1.defers, _, ?_, I1, m', st', tr'.rel 0 r' rfl⟩
        have hm : (fn.results.mapM (fun (r : ResultVar) => match r with | .tmp t => (pure (a.tmps.getD t undef) : Sem Value) | .cell ad t => do loadVar t (← asAddr (a.tmps.getD ad undef)))).run P w1 = .ok ys.toArray w1 := by
          rw [Array.mapM_eq_mapM_toList]
          simp only [Sem.run_map, hys, Result.andThen_ok]
        show ((do let vs ← fn.results.mapM (fun (r : ResultVar) => match r with | .tmp t => (pure (a.tmps.getD t undef) : Sem Value) | .cell ad t => do loadVar t (← asAddr (a.tmps.getD ad undef))); pure (if h : vs.size = 1 then vs[0] else .tuple vs)) : Sem Value).run P w1 = _
        simp only [Sem.run_bind, hm, Result.andThen_ok, Sem.run_pure]
        rfl
      · cases hs
  unfold evBody at he
  split at he
  · rename_i s hs
    refine sound_code hF hD rel K n c hc (s := ⟨frame fn args, h⟩) (Step.refl rel) tr hs (fun I1 m1 a w1 st tr1 => ?_)
    exact fin s he I1 m1 a w1 st tr1
  · rename_i s hs
    refine sound_code hF hD rel K n c hc (s := ⟨frame fn args, h⟩) (Step.refl rel) tr hs (fun I1 m1 a w1 st tr1 => ?_)
    exact fin s he I1 m1 a w1 st tr1
  · cases he

end
end Go.Flat
