/-
  A region whose order is open, with allocations that aren't bound to one another: what is looked after, and what single operations do there.
-/
import Derived.Test.YtldpbpgceplejaaFlatX
namespace Go.Flat
set_option linter.unusedVariables false

/-- It makes something new, by what it is handed alone. -/
def allocs (τ : Tab) (o : Oper) : Bool :=
  match o.op with
  | .alloc _ | .box .. | .buildSlice .. | .makeSlice .. => true
  | .convert s d _ => moves τ o
  | _ => false

def chkTwo2 (τ : Tab) (ops : List Oper) (cl : List Nat) (i : Nat) (o : Oper) (j : Nat) (o' : Oper) : Bool :=
  (match o'.dst with
   | none => true
   | some d => decide (i = j) || (!(o.dst == some d) && (!(looks ops o).contains d || (if j < i then bef cl j i else bef cl i j)))) &&
  (if i < j then !(moves τ o && moves τ o') || (bef cl i j || allocs τ o') else true)
def chkThree (τ : Tab) (ops : List Oper) (cl : List Nat) : Bool :=
  allI (fun i o => if readsIt τ o then allI (fun r o' => if allocs τ o' && bef cl r i then allI (fun c o2 => !(moves τ o2 && !allocs τ o2) || (decide (r ≤ c) || bef cl c i)) 0 ops else true) 0 ops else true) 0 ops
def chkS2 (τ : Tab) (ops : List Oper) (cl : List Nat) : Bool :=
  allI (fun i o => o.after.toList.all (fun e => !Region.binds .any e || decide (e.on < i)) && allI (fun j o' => chkTwo2 τ ops cl i o j o') 0 ops) 0 ops && chkThree τ ops cl
def chkD2 (τ : Tab) (ops : List Oper) : Bool := chkS2 τ ops (closGo ops [])

/-- Those that may change what there is: their places, and how much there is ahead of each, and behind it. -/
def mvs (τ : Tab) (hs : List (List Ob)) : Nat → Nat → List Oper → List (Nat × Nat × Nat)
  | _, _, [] => []
  | j, k, o :: r => if moves τ o then (j, (HH hs k).length, (HH hs (k + 1)).length) :: mvs τ hs (j + 1) (k + 1) r else mvs τ hs (j + 1) k r
def outB (a b : Nat) (ids : List Nat) : Bool := ids.all fun z => decide (z < a) || decide (b ≤ z)
def awayFrom (cl : List Nat) (i : Nat) (ids : List Nat) : List (Nat × Nat × Nat) → Bool
  | [] => true
  | (j, a, b) :: r => (if outB a b ids then true else decide (j = i) || bef cl j i) && awayFrom cl i ids r
def opIds (o : Oper) (t : List A) : List Nat := idsL (o.op.operands.toList.map (ofOp t))
def chkOne (τ : Tab) (cl : List Nat) (mv : List (Nat × Nat × Nat)) (i : Nat) (o : Oper) (t : List A) (x : A) (h h' : List Ob) : Bool :=
  awayFrom cl i (idsA x) mv &&
  (if moves τ o then (opIds o t).all (fun z => decide (z < h.length)) && (if allocs τ o then awayFrom cl i ((h'.drop h.length).flatMap idsOb) mv else true)
   else if readsIt τ o then awayFrom cl i (opIds o t) mv else true)
def chkL (τ : Tab) (cl : List Nat) (hs : List (List Ob)) (mv : List (Nat × Nat × Nat)) : Nat → Nat → List Oper → List (List A × A) → Bool
  | _, _, [], _ => true
  | _, _, _ :: _, [] => false
  | i, k, o :: r, (t, x) :: ts => chkOne τ cl mv i o t x (HH hs k) (HH hs (k + 1)) && chkL τ cl hs mv (i + 1) (if moves τ o then k + 1 else k) r ts
def idsIn (h : List Ob) : Bool := h.all fun o => (idsOb o).all fun z => decide (z < h.length)
def chkH : List (List Ob) → Bool
  | [] => true
  | [h] => idsIn h
  | h :: h' :: hs => decide (h.length ≤ h'.length) && idsIn h && chkH (h' :: hs)

noncomputable def D2 (τ : Tab) (F : Fns) (ops : List Oper) (s : St) : Option St :=
  match runD τ F ops ops s.t s.h with
  | some (_, [h'], t') => some ⟨t', h'⟩
  | some (ts, hs, t') =>
    if chkH hs && chkR τ F ops (closGo ops []) hs 0 ops ts && chkL τ (closGo ops []) hs (mvs τ hs 0 0 ops) 0 0 ops ts then
      match hs.getLast? with
      | some h' => some ⟨t', h'⟩
      | none => none
    else none
  | none => none

theorem mvs_mem {τ : Tab} {hs : List (List Ob)} : ∀ {l : List Oper} {j k i : Nat} {o : Oper}, l[i]? = some o → moves τ o = true → (j + i, (HH hs (k + cnt τ (l.take i))).length, (HH hs (k + cnt τ (l.take i) + 1)).length) ∈ mvs τ hs j k l
  | [], j, k, i, o, h, _ => by simp at h
  | x :: l, j, k, i, o, h, hm => by
    cases i with
    | zero =>
      simp at h
      subst h
      simp only [mvs, hm, if_true, List.take_zero]
      exact List.mem_cons_self
    | succ i =>
      have ih := fun k => mvs_mem (hs := hs) (j := j + 1) (k := k) (l := l) (i := i) (o := o) (by simpa using h) hm
      simp only [mvs]
      rw [List.take_succ_cons, cnt_cons, show j + (i + 1) = j + 1 + i by omega]
      cases hx : moves τ x with
      | true =>
        simp only [if_true]
        refine List.mem_cons_of_mem _ ?_
        have := ih (k + 1)
        rwa [show k + (1 + cnt τ (l.take i)) = k + 1 + cnt τ (l.take i) by omega]
      | false =>
        simp only [Bool.false_eq_true, if_false, Nat.zero_add]
        exact ih k

theorem away_spec {cl : List Nat} {i : Nat} {ids : List Nat} : ∀ {mv : List (Nat × Nat × Nat)}, awayFrom cl i ids mv = true → ∀ j a b, (j, a, b) ∈ mv → j ≠ i → ¬ bef cl j i = true → ∀ z ∈ ids, z < a ∨ b ≤ z
  | [], _, j, a, b, h, _, _, z, hz => by cases h
  | (j', a', b') :: mv, hc, j, a, b, h, hne, hnb, z, hz => by
    simp only [awayFrom, Bool.and_eq_true] at hc
    rcases List.mem_cons.1 h with e | h
    · obtain ⟨rfl, rfl, rfl⟩ : j = j' ∧ a = a' ∧ b = b' := by
        have := Prod.mk.inj e
        exact ⟨this.1, Prod.mk.inj this.2⟩
      have h1 := hc.1
      split at h1
      · rename_i ho
        simp only [outB, List.all_eq_true, Bool.or_eq_true, decide_eq_true_eq] at ho
        exact ho z hz
      · simp only [Bool.or_eq_true, decide_eq_true_eq] at h1
        exact (h1.elim hne hnb).elim
    · exact away_spec hc.2 j a b h hne hnb z hz

theorem chkL_spec {τ : Tab} {cl : List Nat} {hs : List (List Ob)} {mv : List (Nat × Nat × Nat)} : ∀ {l : List Oper} {ts : List (List A × A)} {i k : Nat}, chkL τ cl hs mv i k l ts = true → ∀ (n : Nat) o p, l[n]? = some o → ts[n]? = some p →
    chkOne τ cl mv (i + n) o p.1 p.2 (HH hs (k + cnt τ (l.take n))) (HH hs (k + cnt τ (l.take n) + 1)) = true
  | [], ts, i, k, _, n, o, p, ho, _ => by simp at ho
  | x :: l, [], i, k, h, n, o, p, _, hp => by simp at hp
  | x :: l, (t, y) :: ts, i, k, h, n, o, p, ho, hp => by
    simp only [chkL, Bool.and_eq_true] at h
    cases n with
    | zero =>
      simp at ho hp
      subst ho; subst hp
      exact h.1
    | succ n =>
      have := chkL_spec h.2 n o p (by simpa using ho) (by simpa using hp)
      rw [List.take_succ_cons, cnt_cons, show i + (n + 1) = i + 1 + n by omega]
      cases hx : moves τ x with
      | true =>
        simp only [hx, if_true] at this ⊢
        rwa [show k + (1 + cnt τ (l.take n)) = k + 1 + cnt τ (l.take n) by omega]
      | false =>
        simp only [hx, Bool.false_eq_true, if_false, Nat.zero_add] at this ⊢
        exact this

theorem chkH_spec : ∀ {hs : List (List Ob)}, chkH hs = true → (∀ k, k + 1 < hs.length → (HH hs k).length ≤ (HH hs (k + 1)).length) ∧ ∀ k, idsIn (HH hs k) = true
  | [], _ => ⟨fun k h => by simp at h, fun k => rfl⟩
  | [h], hc => ⟨fun k h => by simp at h, fun k => by
      cases k with
      | zero => exact hc
      | succ k => simp [HH, idsIn]⟩
  | h :: h' :: hs, hc => by
    simp only [chkH, Bool.and_eq_true, decide_eq_true_eq] at hc
    obtain ⟨k1, k2⟩ := chkH_spec hc.2
    refine ⟨fun k hk => ?_, fun k => ?_⟩
    · cases k with
      | zero => exact hc.1.1
      | succ k => exact k1 k (by simpa using hk)
    · cases k with
      | zero => exact hc.1.2
      | succ k => exact k2 k

theorem idsIn_spec {h : List Ob} (hc : idsIn h = true) {z : Nat} {o : Ob} (ho : h[z]? = some o) {u : Nat} (hu : u ∈ idsOb o) : u < h.length := by
  simp only [idsIn, List.all_eq_true, decide_eq_true_eq] at hc
  exact hc o (List.mem_of_getElem? ho) u hu

section
variable {τ : Tab} {F : Fns}

theorem newOb_op {arr : Bool} {xs : List A} {h h1 : List Ob} {x : A} (he : newOb arr xs h = some (x, h1)) : ∃ ob, h1 = h ++ [ob] ∧ x = .ptr h.length 0 ∧ ∀ h2, newOb arr xs h2 = some (.ptr h2.length 0, h2 ++ [ob]) := by
  unfold newOb at he ⊢
  split at he
  · split at he
    · rename_i hc
      obtain ⟨rfl, rfl⟩ := Prod.mk.inj (Option.some.inj he)
      exact ⟨_, rfl, rfl, fun h2 => by simp [hc]⟩
    · cases he
  · split at he
    · rename_i hc
      obtain ⟨rfl, rfl⟩ := Prod.mk.inj (Option.some.inj he)
      exact ⟨_, rfl, rfl, fun h2 => by simp [hc]⟩
    · cases he

/-- What makes something new makes it in whatever memory. -/
theorem alloc_op {o : Oper} {t : List A} {h h1 : List Ob} {x : A} (ha : allocs τ o = true) (he : evOp τ F o t h = some (x, h1)) : ∃ (mk : Nat → A) (ob : Ob), h1 = h ++ [ob] ∧ x = mk h.length ∧ ∀ h2, evOp τ F o t h2 = some (mk h2.length, h2 ++ [ob]) := by
  obtain ⟨dst, op, ty, pos, aft, g⟩ := o
  cases op with
  | alloc e =>
    simp only [evOp, evAlloc] at he ⊢
    split at he
    · rename_i i hi
      obtain ⟨ob, e1, e2, e3⟩ := newOb_op he
      exact ⟨fun n => .ptr n 0, ob, e1, e2, e3⟩
    · cases he
  | box e y =>
    simp only [evOp, evBox] at he ⊢
    split at he
    · rename_i i hi
      obtain ⟨ob, e1, e2, e3⟩ := newOb_op he
      exact ⟨fun n => .ptr n 0, ob, e1, e2, e3⟩
    · cases he
  | buildSlice ty' len parts =>
    simp only [evOp, evBuildSlice] at he ⊢
    split at he
    · rename_i i hi
      split at he
      · rename_i ei hei
        split at he
        · rename_i hc
          split at he
          · rename_i xs hxs
            obtain ⟨rfl, rfl⟩ := Prod.mk.inj (Option.some.inj he)
            exact ⟨fun n => .sl n 0 len ei.size, _, rfl, rfl, fun h2 => by rw [if_pos hc]⟩
          · cases he
        · cases he
      · cases he
    · cases he
  | makeSlice ty' l c =>
    simp only [evOp, evMakeSlice] at he ⊢
    split at he
    · rename_i e k1 l1 k2 c1 hi hl hcap
      split at he
      · rename_i ei hei
        split at he
        · rename_i hc
          obtain ⟨rfl, rfl⟩ := Prod.mk.inj (Option.some.inj he)
          exact ⟨fun n => .sl n 0 l1.toNat ei.size, _, rfl, rfl, fun h2 => by rw [if_pos hc]⟩
        · cases he
      · cases he
    · cases he
  | convert s d y =>
    simp only [evOp, evConvert] at he ⊢
    simp only [allocs, moves, kindOf, qConv] at ha
    split at he
    · rename_i si di hs hd
      simp only [hs, hd] at ha ⊢
      split at he
      · rename_i h1 h2; simp [h1, h2] at ha
      · rename_i h1 h2; simp [h1, h2] at ha
      · rename_i e h1 h2
        split at he
        · rename_i str hte hy
          split at he
          · rename_i hsz
            obtain ⟨rfl, rfl⟩ := Prod.mk.inj (Option.some.inj he)
            refine ⟨fun n => .sl n 0 str.size 1, _, rfl, rfl, fun h3 => ?_⟩
            simp only [h1, h2, hte, hy, if_pos hsz]
          · cases he
        · cases he
      · rename_i e h1 h2; simp [h1, h2] at ha
      · rename_i e e2 h1 h2; simp [h1, h2] at ha
      · cases he
    · cases he
  | _ => simp [allocs] at ha

theorem getCells_local {h h2 : List Ob} {p : A} {n : Nat} {cs : List A} (he : getCells h p n = some cs) (ho : ∀ z ∈ idsA p, ∀ ob, h[z]? = some ob → h2[z]? = some ob) : getCells h2 p n = some cs := by
  unfold getCells at he ⊢
  split at he
  · rename_i i off
    cases hi : h[i]? with
    | none => rw [hi] at he; cases he
    | some ob => rw [hi] at he; rw [ho i (by simp [idsA]) ob hi]; exact he
  · exact he
  · cases he

theorem ids_op {o : Oper} {t : List A} {x : Operand} (hx : x ∈ o.op.operands.toList) {z : Nat} (hz : z ∈ idsA (ofOp t x)) : z ∈ opIds o t := by
  obtain ⟨j, hj⟩ := List.getElem?_of_mem hx
  exact idsL_sub (xs := o.op.operands.toList.map (ofOp t)) (j := j) (by rw [List.getElem?_map, hj]; rfl) hz

/-- What reads, reads the same wherever what it is handed lies there. -/
theorem reads_local {o : Oper} {t : List A} {h h2 : List Ob} {x : A} (hk : kindOf τ o = 1) (he : evOp τ F o t h = some (x, h)) (ho : ∀ z ∈ opIds o t, ∀ ob, h[z]? = some ob → h2[z]? = some ob) : evOp τ F o t h2 = some (x, h2) := by
  have hop : ∀ y ∈ o.op.operands.toList, ∀ z ∈ idsA (ofOp t y), ∀ ob, h[z]? = some ob → h2[z]? = some ob := fun y hy z hz => ho z (ids_op hy hz)
  obtain ⟨dst, op, ty, pos, aft, g⟩ := o
  have fin : ∀ {f : List Ob → Option A}, (f h).map (·, h) = some (x, h) → (∀ y, f h = some y → f h2 = some y) → (f h2).map (·, h2) = some (x, h2) := fun {f} h1 h3 => by
    obtain ⟨-, e⟩ := opt_heap h1
    rw [h3 x e]
    rfl
  cases op with
  | call c =>
    obtain ⟨callee, args, argTypes⟩ := c
    cases callee with
    | builtin b =>
      cases b with
      | len =>
        simp only [evOp] at he ⊢
        split at he
        · rename_i y ty' hx hty
          have hy := hop y (by simp [Op.operands, Call.operands, hx])
          refine fin (f := fun h => evLen τ ty' (ofOp t y) h) he fun u hu => ?_
          simp only [evLen] at hu ⊢
          split at hu
          · rename_i i hi
            split at hu
            · exact hu
            · exact hu
            · exact hu
            · exact hu
            · exact hu
            · exact hu
            · rename_i j h1 h3
              rw [h3] at hy
              cases hj : h[j]? with
              | none => rw [hj] at hu; cases hu
              | some ob => rw [hj] at hu; rw [hy j (by simp [idsA]) ob hj]; exact hu
            · cases hu
          · cases hu
        · cases he
      | _ => simp [kindOf] at hk
    | _ => simp [kindOf] at hk
  | convert s d y =>
    have hy := hop y (by simp [Op.operands])
    simp only [evOp, evConvert, kindOf, qConv] at he hk ⊢
    cases hs : τ s with
    | none => rw [hs] at he; simp at he
    | some si =>
      cases hd : τ d with
      | none => rw [hs, hd] at he; simp at he
      | some di =>
        simp only [hs, hd] at he hk ⊢
        split at hk
        · cases hk
        · cases hk
        · rename_i h1 h3
          simp only [h1, h3] at he ⊢
          split at he
          · rename_i hte
            cases hc : sliceCells h 1 (ofOp t y) with
            | none => rw [hc] at he; cases he
            | some p =>
              have hc2 : sliceCells h2 1 (ofOp t y) = some p := by
                unfold sliceCells at hc ⊢
                split at hc
                · exact hc
                · exact hc
                · rename_i i off n s' hy0
                  rw [hy0] at hy
                  split at hc
                  · rename_i hs1
                    rw [if_pos hs1]
                    cases hg : getCells h (.ptr i off) (n * 1) with
                    | none => rw [hg] at hc; cases hc
                    | some cs => rw [hg] at hc; rw [getCells_local hg (h2 := h2) (fun z hz => hy z (by simpa [idsA] using hz))]; exact hc
                  · cases hc
                · cases hc
              rw [hc] at he
              rw [hc2]
              simp only [Option.bind_some] at he ⊢
              split at he
              · rename_i hb
                obtain ⟨rfl, -⟩ := Prod.mk.inj (Option.some.inj he)
                rw [if_pos hb]
              · cases he
          · cases he
        · rename_i h1 h3
          simp only [h1, h3] at he ⊢
          split at he
          · rename_i hsd
            rw [if_pos hsd]
            split at he
            · rename_i i off n sz hte hy0
              split at he
              · rename_i hn
                rw [if_pos hn]
                split at he
                · rename_i xs hi
                  obtain ⟨rfl, -⟩ := Prod.mk.inj (Option.some.inj he)
                  rw [hy i (by rw [hy0]; simp [idsA]) _ hi]
                · cases he
              · cases he
            · cases he
          · cases he
        · cases hk
  | load ty' y =>
    have hy := hop y (by simp [Op.operands])
    simp only [evOp] at he ⊢
    refine fin (f := fun h => evLoad τ ty' (ofOp t y) h) he fun u hu => ?_
    simp only [evLoad] at hu ⊢
    split at hu
    · rename_i i hi
      cases hg : getCells h (ofOp t y) i.size with
      | none => rw [hg] at hu; cases hu
      | some cs => rw [hg] at hu; rw [getCells_local hg hy]; exact hu
    · cases hu
  | slice ty' y lo hi mx =>
    have hy := hop y (by simp [Op.operands])
    simp only [evOp] at he ⊢
    refine fin (f := fun h => evSlice τ ty' (ofOp t y) (lo.map (ofOp t)) (hi.map (ofOp t)) (mx.map (ofOp t)) h) he fun u hu => ?_
    simp only [evSlice] at hu ⊢
    split at hu
    · split at hu
      · split at hu
        · rename_i i off hyi
          rw [hyi] at hy
          cases hj : h[i]? with
          | none => rw [hj] at hu; cases hu
          | some ob => rw [hj] at hu; rw [hy i (by simp [idsA]) ob hj]; exact hu
        · cases hu
      · cases hu
    · exact hu
    · exact hu
    · cases hu
  | _ => simp [kindOf] at hk
end
end Go.Flat
