/-
  A region whose order is open: its ways all lead to the same.
-/
import Derived.Test.YtldpbpgceplejaaFlatL
namespace Go.Flat
set_option linter.unusedVariables false

theorem allI_spec {f : Nat → Oper → Bool} : ∀ {l : List Oper} {k : Nat}, allI f k l = true → ∀ (i : Nat) o, l[i]? = some o → f (k + i) o = true
  | [], _, _, i, o, ho => by simp at ho
  | x :: l, k, h, i, o, ho => by
    simp only [allI, Bool.and_eq_true] at h
    cases i with
    | zero => simp at ho; subst ho; exact h.1
    | succ i =>
      have := allI_spec h.2 i o (by simpa using ho)
      rwa [Nat.add_assoc, Nat.add_comm 1 i] at this

section
variable {τ : Tab} {F : Fns} {all : List Oper}

def cnt (τ : Tab) (l : List Oper) : Nat := (l.filter (moves τ)).length
theorem cnt_cons (o : Oper) (l : List Oper) : cnt τ (o :: l) = (if moves τ o then 1 else 0) + cnt τ l := by
  unfold cnt
  cases h : moves τ o <;> simp [h, Nat.add_comm]

theorem opt_heap {α : Type} {x : Option α} {h h' : List Ob} {y : α} (he : x.map (·, h) = some (y, h')) : h' = h ∧ x = some y := by
  cases x with
  | none => cases he
  | some z => obtain ⟨rfl, rfl⟩ := Prod.mk.inj (Option.some.inj he); exact ⟨rfl, rfl⟩

/-- By what it is handed alone. -/
theorem quiet_op {o : Oper} {t : List A} {h h' : List Ob} {x : A} (hk : kindOf τ o = 0) (he : evOp τ F o t h = some (x, h')) (h2 : List Ob) : h' = h ∧ evOp τ F o t h2 = some (x, h2) := by
  obtain ⟨dst, op, ty, pos, aft, g⟩ := o
  cases op with
  | call c =>
    obtain ⟨callee, args, argTypes⟩ := c
    cases callee with
    | builtin b =>
      cases b with
      | min =>
        simp only [evOp] at he ⊢
        split at he
        · rename_i y r hy
          obtain ⟨rfl, e⟩ := opt_heap he
          exact ⟨rfl, by rw [e]; rfl⟩
        · cases he
      | max =>
        simp only [evOp] at he ⊢
        split at he
        · rename_i y r hy
          obtain ⟨rfl, e⟩ := opt_heap he
          exact ⟨rfl, by rw [e]; rfl⟩
        · cases he
      | _ => simp [kindOf] at hk
    | _ => simp [kindOf] at hk
  | convert s d y =>
    simp only [evOp, evConvert, kindOf, qConv] at he hk ⊢
    cases hs : τ s with
    | none => rw [hs] at he; simp at he
    | some si =>
      cases hd : τ d with
      | none => rw [hs, hd] at he; simp at he
      | some di =>
        simp only [hs, hd] at he hk ⊢
        split at hk
        · rename_i h1 h3
          simp only [h1, h3] at he ⊢
          cases hi : int? (ofOp t y) with
          | none => rw [hi] at he; cases he
          | some p =>
            rw [hi] at he
            obtain ⟨rfl, rfl⟩ := Prod.mk.inj (Option.some.inj he)
            exact ⟨rfl, rfl⟩
        · rename_i h1 h3
          simp only [h1, h3] at he ⊢
          split at he
          · obtain ⟨rfl, rfl⟩ := Prod.mk.inj (Option.some.inj he)
            exact ⟨rfl, rfl⟩
          · cases he
        · cases hk
        · cases hk
        · cases hk
  | pick c a b =>
    simp only [evOp] at he ⊢
    split at he
    · rename_i hb
      obtain ⟨rfl, rfl⟩ := Prod.mk.inj (Option.some.inj he)
      exact ⟨rfl, rfl⟩
    · cases he
  | nilCheck y =>
    simp only [evOp] at he ⊢
    split at he
    · obtain ⟨rfl, rfl⟩ := Prod.mk.inj (Option.some.inj he)
      exact ⟨rfl, rfl⟩
    · obtain ⟨rfl, rfl⟩ := Prod.mk.inj (Option.some.inj he)
      exact ⟨rfl, rfl⟩
    · cases he
  | binOp b ty' y z ty'' =>
    simp only [evOp] at he ⊢
    split at he
    · obtain ⟨rfl, rfl⟩ := Prod.mk.inj (Option.some.inj he)
      exact ⟨rfl, rfl⟩
    · obtain ⟨rfl, e⟩ := opt_heap he
      exact ⟨rfl, by rw [e]; rfl⟩
  | extract y ix =>
    simp only [evOp] at he ⊢
    split at he
    · obtain ⟨rfl, e⟩ := opt_heap he
      exact ⟨rfl, by rw [e]; rfl⟩
    · cases he
  | makeFunc fn first caps =>
    simp only [evOp] at he ⊢
    split at he
    · split at he
      · rename_i hf
        split at he
        · rename_i hlt
          obtain ⟨rfl, rfl⟩ := Prod.mk.inj (Option.some.inj he)
          exact ⟨rfl, by rw [if_pos hf, if_pos hlt]⟩
        · cases he
      · rename_i hf
        split at he
        · rename_i hc
          obtain ⟨rfl, rfl⟩ := Prod.mk.inj (Option.some.inj he)
          exact ⟨rfl, by rw [if_neg hf, if_pos hc]⟩
        · cases he
    · cases he
  | move y => obtain ⟨rfl, rfl⟩ := Prod.mk.inj (Option.some.inj he); exact ⟨rfl, rfl⟩
  | assign y => obtain ⟨rfl, rfl⟩ := Prod.mk.inj (Option.some.inj he); exact ⟨rfl, rfl⟩
  | _ => first
    | (simp [kindOf] at hk; done)
    | (simp only [evOp] at he ⊢
       obtain ⟨rfl, e⟩ := opt_heap he
       exact ⟨rfl, by rw [e]; rfl⟩)

/-- It reads. -/
theorem reads_op {o : Oper} {t : List A} {h h' : List Ob} {x : A} (hk : kindOf τ o = 1) (he : evOp τ F o t h = some (x, h')) : h' = h := by
  obtain ⟨dst, op, ty, pos, aft, g⟩ := o
  cases op with
  | call c =>
    obtain ⟨callee, args, argTypes⟩ := c
    cases callee with
    | builtin b =>
      cases b with
      | len =>
        simp only [evOp] at he
        split at he
        · exact (opt_heap he).1
        · cases he
      | _ => simp [kindOf] at hk
    | _ => simp [kindOf] at hk
  | convert s d y =>
    simp only [evOp, evConvert, kindOf, qConv] at he hk
    cases hs : τ s with
    | none => rw [hs] at he; simp at he
    | some si =>
      cases hd : τ d with
      | none => rw [hs, hd] at he; simp at he
      | some di =>
        simp only [hs, hd] at he hk
        split at hk
        · cases hk
        · cases hk
        · rename_i h1 h3
          simp only [h1, h3] at he
          split at he
          · cases hc : sliceCells h 1 (ofOp t y) with
            | none => rw [hc] at he; cases he
            | some p =>
              rw [hc] at he
              simp only [Option.bind_some] at he
              split at he
              · exact (Prod.mk.inj (Option.some.inj he)).2.symm
              · cases he
          · cases he
        · rename_i h1 h3
          simp only [h1, h3] at he
          split at he
          · split at he
            · split at he
              · split at he
                · exact (Prod.mk.inj (Option.some.inj he)).2.symm
                · cases he
              · cases he
            · cases he
          · cases he
        · cases hk
  | load ty' y => exact (opt_heap (by simpa only [evOp] using he)).1
  | slice ty' y lo hi mx => exact (opt_heap (by simpa only [evOp] using he)).1
  | _ => simp [kindOf] at hk

theorem still_op {o : Oper} {t : List A} {h h' : List Ob} {x : A} (hm : moves τ o = false) (he : evOp τ F o t h = some (x, h')) : h' = h := by
  have hk : kindOf τ o = 0 ∨ kindOf τ o = 1 := by
    obtain ⟨dst, op, ty, pos, aft, g⟩ := o
    unfold moves at hm
    split at hm
    · cases hm
    · rename_i hne
      revert hne
      cases op with
      | call c =>
        obtain ⟨callee, args, argTypes⟩ := c
        cases callee with
        | builtin b => cases b <;> simp [kindOf]
        | _ => simp [kindOf]
      | convert s d y =>
        simp only [kindOf, qConv]
        split
        · split <;> simp
        · simp
      | _ => simp [kindOf]
  rcases hk with hk | hk
  · exact (quiet_op hk he []).1
  · exact reads_op hk he

theorem still_step {o : Oper} {t : List A} {h h' : List Ob} {x : A} (hm : moves τ o = false) (he : stepAt τ F all o t h = some (x, h')) : h' = h := by
  unfold stepAt at he
  split at he
  · exact still_op hm he
  · exact (Prod.mk.inj (Option.some.inj he)).2.symm
  · cases he

theorem quiet_step {o : Oper} {t : List A} {h h' : List Ob} {x : A} (hk : kindOf τ o = 0) (he : stepAt τ F all o t h = some (x, h')) (h2 : List Ob) : stepAt τ F all o t h2 = some (x, h2) := by
  unfold stepAt at he ⊢
  split at he
  · exact (quiet_op hk he h2).2
  · obtain ⟨rfl, rfl⟩ := Prod.mk.inj (Option.some.inj he); rfl
  · cases he

def TT (ts : List (List A × A)) (t' : List A) (i : Nat) : List A := match ts[i]? with | some p => p.1 | none => t'
def XX (ts : List (List A × A)) (i : Nat) : A := match ts[i]? with | some p => p.2 | none => .any
def HH (hs : List (List Ob)) (k : Nat) : List Ob := hs.getD k []

theorem runD_spec : ∀ {l : List Oper} {t : List A} {h : List Ob} {ts : List (List A × A)} {hs : List (List Ob)} {t' : List A}, runD τ F all l t h = some (ts, hs, t') →
    (∀ (i : Nat) o, l[i]? = some o → stepAt τ F all o (TT ts t' i) (HH hs (cnt τ (l.take i))) = some (XX ts i, HH hs (cnt τ (l.take (i + 1)))) ∧ TT ts t' (i + 1) = putT (TT ts t' i) o.dst (XX ts i)) ∧
    TT ts t' 0 = t ∧ TT ts t' l.length = t' ∧ HH hs 0 = h ∧ hs.length = cnt τ l + 1 ∧ ts.length = l.length
  | [], t, h, ts, hs, t', he => by
    simp only [runD, Option.some.injEq, Prod.mk.injEq] at he
    obtain ⟨rfl, rfl, rfl⟩ := he
    exact ⟨fun i o ho => by simp at ho, rfl, rfl, rfl, rfl, rfl⟩
  | o :: l, t, h, ts, hs, t', he => by
    simp only [runD] at he
    split at he
    · rename_i x h1 hst
      split at he
      · rename_i ts1 hs1 t1 hr
        simp only [Option.some.injEq, Prod.mk.injEq] at he
        obtain ⟨rfl, rfl, rfl⟩ := he
        obtain ⟨ih, h0, hn, hh0, hlen, hl⟩ := runD_spec hr
        have hH : ∀ k, HH (if moves τ o = true then h :: hs1 else hs1) ((if moves τ o then 1 else 0) + k) = HH hs1 k := fun k => by
          cases hm : moves τ o with
          | true => simp only [if_true]; rw [Nat.add_comm]; rfl
          | false => simp
        have hH0 : HH (if moves τ o = true then h :: hs1 else hs1) 0 = h := by
          cases hm : moves τ o with
          | true => rfl
          | false =>
            have := still_step hm hst
            subst this
            exact hh0
        refine ⟨fun i o' ho => ?_, rfl, hn, hH0, ?_, by simp [hl]⟩
        · cases i with
          | zero =>
            simp at ho
            subst ho
            refine ⟨?_, ?_⟩
            · show stepAt τ F all o t (HH _ (cnt τ [])) = some (x, HH _ (cnt τ (List.take (0 + 1) (o :: l))))
              have e : List.take (0 + 1) (o :: l) = [o] := by simp
              rw [e, cnt_cons]
              have : HH (if moves τ o = true then h :: hs1 else hs1) (cnt τ []) = h := hH0
              rw [this, hH]
              show _ = some (x, HH hs1 0)
              rw [hh0]
              exact hst
            · show TT ts1 t1 0 = putT t o.dst x
              exact h0
          | succ i =>
            obtain ⟨a1, a2⟩ := ih i o' (by simpa using ho)
            refine ⟨?_, a2⟩
            have e1 : List.take (i + 1) (o :: l) = o :: l.take i := by simp
            have e2 : List.take (i + 1 + 1) (o :: l) = o :: l.take (i + 1) := by simp
            rw [e1, e2, cnt_cons, cnt_cons, hH, hH]
            exact a1
        · rw [cnt_cons]
          cases hm : moves τ o with
          | true => simp [hlen]; omega
          | false => simp [hlen]
      · cases he
    · cases he

/-- What lies in the places when just those of L have been. -/
structure Agrees (all : List Oper) (xs : Nat → A) (t0 : List A) (L : Nat → Prop) (t : List A) : Prop where
  len : t.length = t0.length
  new : ∀ (j : Nat) o d, all[j]? = some o → o.dst = some d → L j → d < t0.length → t[d]? = some (xs j)
  old : ∀ d, (∀ (j : Nat) o, all[j]? = some o → o.dst = some d → ¬ L j) → t[d]? = t0[d]?

def Apart (all : List Oper) : Prop := ∀ (i j : Nat) o o' d, all[i]? = some o → all[j]? = some o' → o.dst = some d → o'.dst = some d → i = j

theorem putT_len (t : List A) (d : Option Tmp) (x : A) : (putT t d x).length = t.length := by
  cases d <;> simp [putT]

theorem Agrees.put {xs : Nat → A} {t0 t : List A} {L L' : Nat → Prop} (ap : Apart all) (ag : Agrees all xs t0 L t) {i : Nat} {o : Oper} (ho : all[i]? = some o) (hL : ∀ j, L' j ↔ L j ∨ j = i) :
    Agrees all xs t0 L' (putT t o.dst (xs i)) := by
  refine ⟨by rw [putT_len, ag.len], fun j o' d hj hd hl hlt => ?_, fun d hd => ?_⟩
  · cases hdo : o.dst with
    | none =>
      rcases (hL j).1 hl with h | h
      · exact ag.new j o' d hj hd h hlt
      · subst h; rw [ho] at hj; obtain rfl := Option.some.inj hj; rw [hdo] at hd; cases hd
    | some e =>
      simp only [putT]
      by_cases hed : e = d
      · subst hed
        have := ap i j o o' e ho hj hdo hd
        subst this
        rw [List.getElem?_set_self (by rw [ag.len]; exact hlt)]
      · rw [List.getElem?_set_ne hed]
        rcases (hL j).1 hl with h | h
        · exact ag.new j o' d hj hd h hlt
        · subst h; rw [ho] at hj; obtain rfl := Option.some.inj hj; rw [hdo] at hd; exact absurd (Option.some.inj hd) hed
  · have h1 : ∀ (j : Nat) o', all[j]? = some o' → o'.dst = some d → ¬ L j := fun j o' hj hd' hl => hd j o' hj hd' ((hL j).2 (.inl hl))
    cases hdo : o.dst with
    | none => exact ag.old d h1
    | some e =>
      simp only [putT]
      have hed : e ≠ d := fun h => by subst h; exact hd i o ho hdo ((hL i).2 (.inr rfl))
      rw [List.getElem?_set_ne hed]
      exact ag.old d h1

theorem Agrees.same {xs : Nat → A} {t0 t t' : List A} {L L' : Nat → Prop} (ap : Apart all) (a : Agrees all xs t0 L t) (a' : Agrees all xs t0 L' t') {d : Nat} (h : ∀ (j : Nat) o, all[j]? = some o → o.dst = some d → (L j ↔ L' j)) : t[d]? = t'[d]? := by
  by_cases hd : d < t0.length
  · by_cases hex : ∃ (j : Nat) (o : Oper), all[j]? = some o ∧ o.dst = some d ∧ L j
    · obtain ⟨j, o, hj, hdo, hl⟩ := hex
      rw [a.new j o d hj hdo hl hd, a'.new j o d hj hdo ((h j o hj hdo).1 hl) hd]
    · rw [a.old d fun j o hj hdo hl => hex ⟨j, o, hj, hdo, hl⟩, a'.old d fun j o hj hdo hl => hex ⟨j, o, hj, hdo, (h j o hj hdo).2 hl⟩]
  · rw [List.getElem?_eq_none (by rw [a.len]; omega), List.getElem?_eq_none (by rw [a'.len]; omega)]

theorem closStep_spec {acc : List Nat} {j : Nat} : ∀ {es : List Edge} {s : Nat}, (es.foldl (fun s e => if Region.binds .any e then s ||| (2 ^ e.on ||| acc.getD e.on 0) else s) s).testBit j = true →
    s.testBit j = true ∨ ∃ e ∈ es, Region.binds .any e = true ∧ (e.on = j ∨ (acc.getD e.on 0).testBit j = true)
  | [], s, h => .inl h
  | e :: es, s, h => by
    rw [List.foldl_cons] at h
    rcases closStep_spec h with h1 | ⟨e', he', hb, hh⟩
    · split at h1
      · rename_i hb
        simp only [Nat.testBit_or, Bool.or_eq_true, Nat.testBit_two_pow, decide_eq_true_eq] at h1
        rcases h1 with h1 | h1 | h1
        · exact .inl h1
        · exact .inr ⟨e, List.mem_cons_self, hb, .inl h1⟩
        · exact .inr ⟨e, List.mem_cons_self, hb, .inr h1⟩
      · exact .inl h1
    · exact .inr ⟨e', List.mem_cons_of_mem _ he', hb, hh⟩

def Preds (L : Nat → Prop) (o : Oper) : Prop := ∀ e ∈ o.after.toList, Region.binds .any e = true → L e.on

theorem closGo_spec {L : Nat → Prop} (hL : ∀ (i : Nat) o, all[i]? = some o → L i → Preds L o) : ∀ {rest pre : List Oper} {acc : List Nat}, all = pre ++ rest → acc.length = pre.length →
    (∀ (i : Nat) o, pre[i]? = some o → Preds L o → ∀ j, (acc.getD i 0).testBit j = true → L j) →
    ∀ (i : Nat) o, all[i]? = some o → Preds L o → ∀ j, bef (closGo rest acc) j i = true → L j
  | [], pre, acc, ha, hl, hp, i, o, ho, hpr, j, hb => by
    rw [ha, List.append_nil] at ho
    exact hp i o ho hpr j hb
  | x :: rest, pre, acc, ha, hl, hp, i, o, ho, hpr, j, hb => by
    refine closGo_spec hL (rest := rest) (pre := pre ++ [x]) (acc := acc ++ [closStep acc x.after.toList]) (by rw [ha]; simp) (by simp [hl]) (fun i o hi hpr j hj => ?_) i o ho hpr j hb
    rcases Nat.lt_or_ge i pre.length with h | h
    · rw [List.getElem?_append_left h] at hi
      rw [List.getD_eq_getElem?_getD, List.getElem?_append_left (by omega), ← List.getD_eq_getElem?_getD] at hj
      exact hp i o hi hpr j hj
    · rw [List.getElem?_append_right h] at hi
      have hi0 : i = pre.length := by
        have := (List.getElem?_eq_some_iff.1 hi).1
        simp at this
        omega
      subst hi0
      simp at hi
      subst hi
      rw [List.getD_eq_getElem?_getD, List.getElem?_append_right (by omega)] at hj
      simp only [hl, Nat.sub_self, List.getElem?_cons_zero, Option.getD_some] at hj
      rcases closStep_spec hj with h1 | ⟨e, he, hbd, h2 | h2⟩
      · simp at h1
      · subst h2; exact hpr e he hbd
      · have hle := hpr e he hbd
        rcases Nat.lt_or_ge e.on pre.length with h3 | h3
        · obtain ⟨o', ho'⟩ : ∃ o', pre[e.on]? = some o' := ⟨_, List.getElem?_eq_getElem h3⟩
          exact hp e.on o' ho' (hL e.on o' (by rw [ha, List.getElem?_append_left h3]; exact ho') hle) j h2
        · rw [List.getD_eq_getElem?_getD, List.getElem?_eq_none (by omega)] at h2
          simp at h2

theorem okAt_of {cl : List Nat} {i k : Nat} : ∀ {l : List Oper} {j r : Nat}, (∀ (n : Nat) o, l[n]? = some o → moves τ o = true → (bef cl (j + n) i = true → r + cnt τ (l.take n) < k) ∧ (bef cl i (j + n) = true → k ≤ r + cnt τ (l.take n))) → okAt τ cl i k j r l = true
  | [], j, r, _ => rfl
  | o :: l, j, r, h => by
    unfold okAt
    have tail : ∀ r', r' = r + (if moves τ o then 1 else 0) → okAt τ cl i k (j + 1) r' l = true := fun r' hr' => okAt_of fun n o' hn hm => by
      have := h (n + 1) o' (by simpa using hn) hm
      rw [List.take_succ_cons, cnt_cons] at this
      rw [hr', Nat.add_assoc j 1 n, Nat.add_comm 1 n, Nat.add_assoc r]
      exact this
    cases hm : moves τ o with
    | false => simp only [Bool.false_eq_true, if_false]; exact tail r (by simp [hm])
    | true =>
      simp only [if_true]
      have h0 := h 0 o rfl hm
      simp only [Nat.add_zero, List.take_zero] at h0
      have e0 : cnt τ [] = 0 := rfl
      rw [e0, Nat.add_zero] at h0
      rw [tail (r + 1) (by simp [hm]), Bool.and_true, Bool.and_eq_true]
      refine ⟨?_, ?_⟩
      · cases hb : bef cl j i with
        | false => rfl
        | true => simpa using h0.1 hb
      · cases hb : bef cl i j with
        | false => rfl
        | true => simpa using h0.2 hb

theorem chkAt_spec {cl : List Nat} {i : Nat} {o : Oper} {t : List A} {x : A} : ∀ {hs : List (List Ob)} {k : Nat}, chkAt τ F all cl i o t x k hs = true → ∀ n h, hs[n]? = some h → okAt τ cl i (k + n) 0 0 all = true → stepAt τ F all o t h = some (x, h)
  | [], k, _, n, h, hn, _ => by simp at hn
  | h0 :: hs, k, hc, n, h, hn, hok => by
    simp only [chkAt, Bool.and_eq_true] at hc
    cases n with
    | zero =>
      simp at hn
      subst hn
      have := hc.1
      rw [Nat.add_zero] at hok
      rw [if_pos hok] at this
      exact same_eq this
    | succ n => exact chkAt_spec hc.2 n h (by simpa using hn) (by rw [Nat.add_assoc, Nat.add_comm 1 n]; exact hok)

theorem chkR_spec {cl : List Nat} {hs : List (List Ob)} : ∀ {l : List Oper} {ts : List (List A × A)} {k : Nat}, chkR τ F all cl hs k l ts = true → ∀ (i : Nat) o p, l[i]? = some o → ts[i]? = some p → readsIt τ o = true → chkAt τ F all cl (k + i) o p.1 p.2 0 hs = true
  | [], ts, k, _, i, o, p, ho, _, _ => by simp at ho
  | x :: l, [], k, _, i, o, p, _, hp, _ => by simp at hp
  | x :: l, q :: ts, k, h, i, o, p, ho, hp, hr => by
    simp only [chkR, Bool.and_eq_true] at h
    cases i with
    | zero =>
      simp at ho hp
      subst ho; subst hp
      have := h.1
      rw [if_pos hr] at this
      exact this
    | succ i =>
      have := chkR_spec h.2 i o p (by simpa using ho) (by simpa using hp) hr
      rwa [Nat.add_assoc, Nat.add_comm 1 i] at this
end
end Go.Flat
