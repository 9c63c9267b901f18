/-
  A region whose order is open: gone through in the text's order, and looked after that another order brings the same.
-/
import Derived.Test.YtldpbpgceplejaaFlatK
import Derived.Orders
namespace Go.Flat

def qConv (τ : Tab) (s d : TypeId) : Nat :=
  match τ s, τ d with
  | some a, some b =>
    match a.desc, b.desc with
    | .int _, .int _ => 0
    | .string, .string => 0
    | .slice _, .string => 1
    | .slice _, .slice _ => 1
    | _, _ => 2
  | _, _ => 2

/-- 0: it answers by what it is handed alone; 1: it reads; 2: it may change what there is. -/
def kindOf (τ : Tab) (o : Oper) : Nat :=
  match o.op with
  | .move _ | .assign _ | .pick .. | .build .. | .nilCheck _ | .binOp .. | .unOp .. | .sliceToArrayPointer .. | .makeFunc .. | .fieldAddr .. | .field .. | .indexAddr .. | .index .. | .extract .. => 0
  | .convert s d _ => qConv τ s d
  | .load .. | .slice .. => 1
  | .call c => match c.callee with | .builtin .min => 0 | .builtin .max => 0 | .builtin .len => 1 | _ => 2
  | _ => 2

def moves (τ : Tab) (o : Oper) : Bool := match kindOf τ o with | 2 => true | _ => false
def readsIt (τ : Tab) (o : Oper) : Bool := match kindOf τ o with | 1 => true | _ => false

def opTmps : List Operand → List Tmp
  | [] => []
  | .tmp t :: r => t :: opTmps r
  | _ :: r => opTmps r

def looks (ops : List Oper) (o : Oper) : List Tmp :=
  match o.guard with
  | some (g, _) => (match ops[g]? with | some o' => (match o'.dst with | some d => d :: opTmps o.op.operands.toList | none => opTmps o.op.operands.toList) | none => opTmps o.op.operands.toList)
  | none => opTmps o.op.operands.toList

def closStep (acc : List Nat) (es : List Edge) : Nat := es.foldl (fun s e => if Region.binds .any e then s ||| (2 ^ e.on ||| acc.getD e.on 0) else s) 0
def closGo : List Oper → List Nat → List Nat
  | [], acc => acc
  | o :: r, acc => closGo r (acc ++ [closStep acc o.after.toList])
def bef (cl : List Nat) (j i : Nat) : Bool := (cl.getD i 0).testBit j

def chkTwo (τ : Tab) (ops : List Oper) (cl : List Nat) (i : Nat) (o : Oper) (j : Nat) (o' : Oper) : Bool :=
  (match o'.dst with
   | none => true
   | some d => decide (i = j) || (!(o.dst == some d) && (!(looks ops o).contains d || (if j < i then bef cl j i else bef cl i j)))) &&
  (if i < j then !(moves τ o && moves τ o') || bef cl i j else true)

def allI (f : Nat → Oper → Bool) : Nat → List Oper → Bool
  | _, [] => true
  | i, o :: r => f i o && allI f (i + 1) r

def chkS (τ : Tab) (ops : List Oper) (cl : List Nat) : Bool :=
  allI (fun i o => o.after.toList.all (fun e => !Region.binds .any e || decide (e.on < i)) && allI (fun j o' => chkTwo τ ops cl i o j o') 0 ops) 0 ops

def stepAt (τ : Tab) (F : Fns) (all : List Oper) (o : Oper) (t : List A) (h : List Ob) : Option (A × List Ob) :=
  match wanted? all t o with
  | some true => evOp τ F o t h
  | some false => some (.v undef, h)
  | none => none

/-- In the text's order: what each op meets and answers; what there is ahead of each that may change it; the end. -/
def runD (τ : Tab) (F : Fns) (all : List Oper) : List Oper → List A → List Ob → Option (List (List A × A) × List (List Ob) × List A)
  | [], t, h => some ([], [h], t)
  | o :: r, t, h =>
    match stepAt τ F all o t h with
    | some (x, h') =>
      match runD τ F all r (putT t o.dst x) h' with
      | some (ts, hs, t') => some ((t, x) :: ts, (if moves τ o then h :: hs else hs), t')
      | none => none
    | none => none

open Classical in
noncomputable def same (x y : Option (A × List Ob)) : Bool := decide (x = y)
theorem same_self (x : Option (A × List Ob)) : same x x = true := by simp [same]
theorem same_eq {x y : Option (A × List Ob)} (h : same x y = true) : x = y := by simpa [same] using h

/-- May op i come when k of those that may change something have been? -/
def okAt (τ : Tab) (cl : List Nat) (i k : Nat) : Nat → Nat → List Oper → Bool
  | _, _, [] => true
  | j, r, o :: rest => if moves τ o then (!bef cl j i || decide (r < k)) && (!bef cl i j || decide (k ≤ r)) && okAt τ cl i k (j + 1) (r + 1) rest else okAt τ cl i k (j + 1) r rest

noncomputable def chkAt (τ : Tab) (F : Fns) (all : List Oper) (cl : List Nat) (i : Nat) (o : Oper) (t : List A) (x : A) : Nat → List (List Ob) → Bool
  | _, [] => true
  | k, h :: hs => (if okAt τ cl i k 0 0 all then same (stepAt τ F all o t h) (some (x, h)) else true) && chkAt τ F all cl i o t x (k + 1) hs

noncomputable def chkR (τ : Tab) (F : Fns) (all : List Oper) (cl : List Nat) (hs : List (List Ob)) : Nat → List Oper → List (List A × A) → Bool
  | _, [], _ => true
  | _, _ :: _, [] => true
  | i, o :: r, (t, x) :: ts => (if readsIt τ o then chkAt τ F all cl i o t x 0 hs else true) && chkR τ F all cl hs (i + 1) r ts

/-- What is looked after once, without running: no two write the same place; who looks at what another writes is bound to it; those that may change something are bound to one another. -/
def chkD (τ : Tab) (ops : List Oper) : Bool := chkS τ ops (closGo ops [])

noncomputable def D1 (τ : Tab) (F : Fns) (ops : List Oper) (s : St) : Option St :=
  match runD τ F ops ops s.t s.h with
  | some (_, [h'], t') => some ⟨t', h'⟩
  | some (ts, hs, t') =>
    if chkR τ F ops (closGo ops []) hs 0 ops ts then
      match hs.getLast? with
      | some h' => some ⟨t', h'⟩
      | none => none
    else none
  | none => none

section
variable {τ : Tab} {F : Fns}

theorem evOp_congr {o : Oper} {t t' : List A} (h : ∀ x ∈ o.op.operands.toList, ofOp t x = ofOp t' x) (hp : List Ob) : evOp τ F o t hp = evOp τ F o t' hp := by
  obtain ⟨dst, op, ty, pos, aft, g⟩ := o
  cases op with
  | call c =>
    obtain ⟨callee, args, argTypes⟩ := c
    have hargs : args.toList.map (ofOp t) = args.toList.map (ofOp t') := by
      refine List.map_congr_left fun x hx => h x ?_
      cases callee <;> simp [Op.operands, Call.operands] <;> simp_all
    have ha : ∀ x ∈ args.toList, ofOp t x = ofOp t' x := fun x hx => h x (by cases callee <;> simp [Op.operands, Call.operands] <;> simp_all)
    cases callee with
    | value f =>
      have hf : ofOp t f = ofOp t' f := h f (by simp [Op.operands, Call.operands])
      simp only [evOp, hf, hargs]
    | builtin b =>
      unfold evOp
      dsimp only
      split
      · rename_i hq; cases hq
      · split
        · rename_i x ty hx _
          rw [ha x (by rw [hx]; simp)]
        · rfl
      · split
        · rename_i s x hx
          rw [ha s (by rw [hx]; simp), ha x (by rw [hx]; simp)]
        · rfl
      · split
        · rename_i s x hx
          rw [ha s (by rw [hx]; simp), ha x (by rw [hx]; simp)]
        · rfl
      · split
        · rename_i x r hx
          rw [ha x (by rw [hx]; simp), List.map_congr_left (fun y hy => ha y (by rw [hx]; simp [hy]))]
        · rfl
      · split
        · rename_i x r hx
          rw [ha x (by rw [hx]; simp), List.map_congr_left (fun y hy => ha y (by rw [hx]; simp [hy]))]
        · rfl
      · rfl
    | _ => rfl
  | build ty parts =>
    have : (parts.toList.map fun p => (p.1, ofOp t p.2)) = parts.toList.map fun p => (p.1, ofOp t' p.2) := List.map_congr_left fun p hp => by rw [h p.2 (by simp only [Op.operands]; exact List.mem_map.2 ⟨p, hp, rfl⟩)]
    simp only [evOp, this]
  | buildSlice ty len parts =>
    have : (parts.toList.map fun p => (p.1, ofOp t p.2)) = parts.toList.map fun p => (p.1, ofOp t' p.2) := List.map_congr_left fun p hp => by rw [h p.2 (by simp only [Op.operands]; exact List.mem_map.2 ⟨p, hp, rfl⟩)]
    simp only [evOp, this]
  | makeFunc fn first caps =>
    have : caps.toList.map (ofOp t) = caps.toList.map (ofOp t') := List.map_congr_left fun p hp => h p (by simp [Op.operands]; simp_all)
    have this2 : first.toList.map (ofOp t) = first.toList.map (ofOp t') := List.map_congr_left fun p hp => h p (by simp [Op.operands]; simp_all)
    simp only [evOp, this, this2]
  | slice ty x lo hi mx =>
    have hx : ofOp t x = ofOp t' x := h x (by simp [Op.operands])
    have hlo : lo.map (ofOp t) = lo.map (ofOp t') := by
      cases lo with
      | none => rfl
      | some y => exact congrArg some (h y (by simp [Op.operands]))
    have hhi : hi.map (ofOp t) = hi.map (ofOp t') := by
      cases hi with
      | none => rfl
      | some y => exact congrArg some (h y (by simp [Op.operands]))
    have hmx : mx.map (ofOp t) = mx.map (ofOp t') := by
      cases mx with
      | none => rfl
      | some y => exact congrArg some (h y (by simp [Op.operands]))
    simp only [evOp, hx, hlo, hhi, hmx]
  | _ => first
    | rfl
    | (have h1 := h _ (by simp only [Op.operands]; exact List.mem_cons_self)
       simp only [evOp, h1]; done)
    | (have h1 := h _ (by simp only [Op.operands]; exact List.mem_cons_self)
       have h2 := h _ (by simp only [Op.operands]; exact List.mem_cons_of_mem _ List.mem_cons_self)
       simp only [evOp, h1, h2]; done)
    | (have h1 := h _ (by simp only [Op.operands]; exact List.mem_cons_self)
       have h2 := h _ (by simp only [Op.operands]; exact List.mem_cons_of_mem _ List.mem_cons_self)
       have h3 := h _ (by simp only [Op.operands]; exact List.mem_cons_of_mem _ (List.mem_cons_of_mem _ List.mem_cons_self))
       simp only [evOp, h1, h2, h3]; done)

theorem wanted?_congr {all : List Oper} {o : Oper} {t t' : List A} (h : ∀ d ∈ looks all o, t[d]? = t'[d]?) : wanted? all t o = wanted? all t' o := by
  unfold wanted? yields?
  cases hg : o.guard with
  | none => rfl
  | some g =>
    obtain ⟨j, b⟩ := g
    dsimp only
    cases hj : all[j]? with
    | none => rfl
    | some o' =>
      dsimp only
      cases hd : o'.dst with
      | none => rfl
      | some d =>
        dsimp only
        rw [h d (by simp [looks, hg, hj, hd])]

theorem mem_opTmps {d : Tmp} : ∀ {l : List Operand}, .tmp d ∈ l → d ∈ opTmps l
  | x :: r, h => by
    rcases List.mem_cons.1 h with e | e
    · subst e; exact List.mem_cons_self
    · cases x <;> simp [opTmps, mem_opTmps e]

theorem opTmps_looks {all : List Oper} {o : Oper} {d : Tmp} (h : d ∈ opTmps o.op.operands.toList) : d ∈ looks all o := by
  unfold looks
  split
  · split
    · split
      · exact List.mem_cons_of_mem _ h
      · exact h
    · exact h
  · exact h

theorem stepAt_congr {all : List Oper} {o : Oper} {t t' : List A} (h : ∀ d ∈ looks all o, t[d]? = t'[d]?) (hp : List Ob) : stepAt τ F all o t hp = stepAt τ F all o t' hp := by
  unfold stepAt
  rw [wanted?_congr h, evOp_congr (t := t) (t' := t') (fun x hx => ?_) hp]
  cases x with
  | tmp d => simp only [ofOp, List.getD_eq_getElem?_getD, h d (opTmps_looks (mem_opTmps hx))]
  | _ => rfl

end
end Go.Flat
