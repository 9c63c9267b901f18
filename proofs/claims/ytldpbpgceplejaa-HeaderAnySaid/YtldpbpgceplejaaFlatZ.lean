/-
  A region whose order is open, with allocations that aren't bound to one another: gone through in the text's order, it is gone through in every order.
-/
import Derived.Test.YtldpbpgceplejaaFlatY
namespace Go.Flat
set_option linter.unusedVariables false

theorem keepOnly_at' (keep : List Nat) : ∀ (xs : List A) (j k : Nat), (keepOnly keep j xs)[k]? = (xs[k]?).map fun x => if keep.contains (j + k) then x else .any
  | [], j, k => by simp [keepOnly]
  | x :: xs, j, 0 => by simp [keepOnly]
  | x :: xs, j, k + 1 => by
    simp only [keepOnly, List.getElem?_cons_succ, keepOnly_at' keep xs (j + 1) k]
    rw [show j + 1 + k = j + (k + 1) by omega]

theorem ofOp_keep {keep : List Nat} {t : List A} {x : Operand} (h : ∀ d, x = .tmp d → d ∈ keep) : ofOp (keepOnly keep 0 t) x = ofOp t x := by
  cases x with
  | tmp d =>
    have hd := h d rfl
    simp only [ofOp, List.getD_eq_getElem?_getD, keepOnly_at', Nat.zero_add]
    cases ht : t[d]? with
    | none => rfl
    | some y => simp [hd]
  | _ => rfl

theorem tmps_mem {d : Tmp} : ∀ {l : List Operand}, d ∈ opTmps l → .tmp d ∈ l
  | x :: r, h => by
    cases x with
    | tmp e =>
      simp only [opTmps, List.mem_cons] at h
      rcases h with rfl | h
      · exact List.mem_cons_self
      · exact List.mem_cons_of_mem _ (tmps_mem h)
    | _ => exact List.mem_cons_of_mem _ (tmps_mem (by simpa [opTmps] using h))

section
variable {P : Program} {F : Fns}

theorem rank_lt {τ : Tab} {l : List Oper} {i j : Nat} {o : Oper} (h : l[i]? = some o) (hm : moves τ o = true) (hij : i < j) : cnt τ (l.take i) < cnt τ (l.take j) := by
  have h1 : cnt τ (l.take (i + 1)) ≤ cnt τ (l.take j) := cnt_take_le (by omega)
  rw [cnt_take_succ h, hm] at h1
  simp only [if_true] at h1
  omega

/-- A step's answer is put into its place. -/
theorem put_rel {I0 I I' : Imm} {m0 m m' : List Loc} {t : List A} {a : Act} (tr : TRel I m t a) (d : Option Tmp) {x : A} {y : Value} (hx : VRel I' m' x y)
    (hold : ∀ (j : Nat) z, d ≠ some j → t[j]? = some z → VRel I' m' z (a.tmps.getD j undef)) : TRel I' m' (putT t d x) (a.put d y) := by
  cases d with
  | none => exact ⟨tr.size, fun j z hz => hold j z (by simp) hz, tr.defers⟩
  | some d =>
    refine ⟨by simp [putT, Act.put, tr.size], fun j z hz => ?_, tr.defers⟩
    simp only [putT] at hz
    rw [List.getElem?_set] at hz
    show VRel I' m' z ((a.tmps.setIfInBounds d y).getD j undef)
    rw [Array.getD_eq_getD_getElem?, Array.getElem?_setIfInBounds]
    by_cases e : d = j
    · subst e
      rw [if_pos rfl] at hz ⊢
      split at hz
      · rename_i hlt
        obtain rfl := Option.some.inj hz
        rw [if_pos (by rw [← tr.size]; exact hlt)]
        exact hx
      · cases hz
    · rw [if_neg e] at hz ⊢
      have := hold j z (fun h => e (Option.some.inj h)) hz
      rwa [Array.getD_eq_getD_getElem?] at this
theorem put_old {a : Act} {d : Option Tmp} {y : Value} {j : Nat} (h : d ≠ some j) : (a.put d y).tmps.getD j undef = a.tmps.getD j undef := by
  cases d with
  | none => rfl
  | some d =>
    have e : d ≠ j := fun e => h (by rw [e])
    show (a.tmps.setIfInBounds d y).getD j undef = _
    rw [Array.getD_eq_getD_getElem?, Array.getElem?_setIfInBounds, if_neg e, ← Array.getD_eq_getD_getElem?]
theorem putT_old {t : List A} {d : Option Tmp} {x : A} {j : Nat} (h : d ≠ some j) : (putT t d x)[j]? = t[j]? := by
  cases d with
  | none => rfl
  | some d =>
    have e : d ≠ j := fun e => h (by rw [e])
    simp only [putT]
    rw [List.getElem?_set_ne e]

theorem D2_sound (hm : P.follows .mixedOrders = true) (hF : Sound P F) : DSound P (chkD2 (tab P)) (D2 (tab P) F) := by
  intro ops id hchk Q t0 h0 t1 h1 a0 I0 m0 w0 rel0 tr0 he hQ
  obtain ⟨ts, hs, t', hr, hck, hlast, htt⟩ : ∃ ts hs t', runD (tab P) F ops.toList ops.toList t0 h0 = some (ts, hs, t') ∧
      (hs.length = 1 ∨ (chkH hs = true ∧ chkR (tab P) F ops.toList (closGo ops.toList []) hs 0 ops.toList ts = true ∧ chkL (tab P) (closGo ops.toList []) hs (mvs (tab P) hs 0 0 ops.toList) 0 0 ops.toList ts = true)) ∧ hs.getLast? = some h1 ∧ t' = t1 := by
    unfold D2 at he
    split at he
    · rename_i ts h' t' hr
      obtain ⟨rfl, rfl⟩ := St.mk.inj (Option.some.inj he)
      exact ⟨_, _, _, hr, .inl rfl, rfl, rfl⟩
    · rename_i ts hs t' _ hr
      split at he
      · rename_i hc
        simp only [Bool.and_eq_true] at hc
        split at he
        · rename_i h' hl
          obtain ⟨rfl, rfl⟩ := St.mk.inj (Option.some.inj he)
          exact ⟨_, _, _, hr, .inr ⟨hc.1.1, hc.1.2, hc.2⟩, hl, rfl⟩
        · cases he
      · cases he
    · cases he
  subst htt
  generalize hall : ops.toList = all at *
  have hget : ∀ (i : Nat), ops[i]? = all[i]? := fun i => by rw [← hall, Array.getElem?_toList]
  have hsz : ops.size = all.length := by rw [← hall, Array.length_toList]
  obtain ⟨hstep, hT0, hTn, hH0, hlen, htl⟩ := runD_spec hr
  generalize hM : cnt (tab P) all = M at *
  have hHn : HH hs M = h1 := by
    rw [List.getLast?_eq_getElem?, hlen, Nat.add_sub_cancel] at hlast
    unfold HH
    rw [List.getD_eq_getElem?_getD, hlast]
    rfl
  -- what was looked after once
  simp only [chkD2, chkS2, Bool.and_eq_true] at hchk
  have hS := allI_spec hchk.1
  have hedge : ∀ (i : Nat) o, all[i]? = some o → ∀ e ∈ o.after.toList, Region.binds .any e = true → e.on < i := fun i o ho e he hb => by
    have := hS i o ho
    simp only [Bool.and_eq_true, List.all_eq_true, Nat.zero_add, Bool.or_eq_true, Bool.not_eq_true', decide_eq_true_eq] at this
    rcases this.1 e he with h | h
    · rw [hb] at h; cases h
    · exact h
  have htwo : ∀ (i j : Nat) o o', all[i]? = some o → all[j]? = some o' → chkTwo2 (tab P) all (closGo all []) i o j o' = true := fun i j o o' ho ho' => by
    have := hS i o ho
    simp only [Bool.and_eq_true, Nat.zero_add] at this
    have := allI_spec this.2 j o' ho'
    rwa [Nat.zero_add] at this
  have ap : Apart all := fun i j o o' d ho ho' hd hd' => by
    have := htwo i j o o' ho ho'
    unfold chkTwo2 at this
    rw [hd'] at this
    simp only [Bool.and_eq_true, Bool.or_eq_true, decide_eq_true_eq, hd] at this
    rcases this.1 with h | h
    · exact h
    · simp at h
  have hlook : ∀ (i j : Nat) o o' d, all[i]? = some o → all[j]? = some o' → o'.dst = some d → d ∈ looks all o → j ≠ i → (j < i → bef (closGo all []) j i = true) ∧ (i < j → bef (closGo all []) i j = true) := fun i j o o' d ho ho' hd hl hne => by
    have := htwo i j o o' ho ho'
    unfold chkTwo2 at this
    rw [hd] at this
    simp only [Bool.and_eq_true, Bool.or_eq_true, decide_eq_true_eq, Bool.not_eq_true', List.contains_eq_mem, decide_eq_false_iff_not] at this
    rcases this.1 with h | ⟨_, h⟩
    · exact absurd h.symm hne
    · rcases h with h | h
      · exact absurd hl h
      · exact ⟨fun hji => by rw [if_pos hji] at h; exact h, fun hij => by rw [if_neg (by omega)] at h; exact h⟩
  have hchain : ∀ (i j : Nat) o o', all[i]? = some o → all[j]? = some o' → i < j → moves (tab P) o = true → moves (tab P) o' = true → allocs (tab P) o' = false → bef (closGo all []) i j = true := fun i j o o' ho ho' hij hmo hmo' hal => by
    have := htwo i j o o' ho ho'
    unfold chkTwo2 at this
    simp only [Bool.and_eq_true] at this
    have := this.2
    rw [if_pos hij, hmo, hmo', hal] at this
    simpa using this
  have hthree : ∀ (i r c : Nat) o o' o2, all[i]? = some o → all[r]? = some o' → all[c]? = some o2 → readsIt (tab P) o = true → allocs (tab P) o' = true → bef (closGo all []) r i = true → moves (tab P) o2 = true → allocs (tab P) o2 = false → c < r → bef (closGo all []) c i = true :=
    fun i r c o o' o2 ho ho' ho2 h1 h2 h3 h4 h5 hcr => by
      have := allI_spec hchk.2 i o ho
      rw [Nat.zero_add, if_pos h1] at this
      have := allI_spec this r o' ho'
      rw [Nat.zero_add, h2, h3] at this
      simp only [Bool.and_self, if_true] at this
      have := allI_spec this c o2 ho2
      rw [Nat.zero_add, h4, h5] at this
      simp only [Bool.not_false, Bool.and_self, Bool.not_true, Bool.false_or, Bool.or_eq_true, decide_eq_true_eq] at this
      rcases this with h | h
      · omega
      · exact h
  have hbef : ∀ (L : Nat → Prop), (∀ (i : Nat) o, all[i]? = some o → L i → Preds L o) → ∀ (i : Nat) o, all[i]? = some o → Preds L o → ∀ j, bef (closGo all []) j i = true → L j := fun L hL => closGo_spec hL (pre := []) (acc := []) rfl rfl (fun i o hi => by simp at hi)
  have hbeflt : ∀ (i j : Nat) o, all[i]? = some o → bef (closGo all []) j i = true → j < i := fun i j o ho hb =>
    hbef (· < i) (fun i' o' ho' hi' e he hbe => Nat.lt_trans (hedge i' o' ho' e he hbe) hi') i o ho (fun e he hbe => hedge i o ho e he hbe) j hb
  generalize hcl : closGo all [] = cl at *
  -- what was looked after in the run
  have hrank : ∀ (i : Nat) o, all[i]? = some o → moves (tab P) o = true → cnt (tab P) (all.take i) < M := fun i o ho hmo => by
    have h := rank_lt ho hmo (show i < i + 1 by omega)
    have : cnt (tab P) (all.take (i + 1)) ≤ cnt (tab P) all := cnt_take_le'
    omega
  have hone : ∀ (i : Nat) o, all[i]? = some o → 0 < M → chkOne (tab P) cl (mvs (tab P) hs 0 0 all) i o (TT ts t' i) (XX ts i) (HH hs (cnt (tab P) (all.take i))) (HH hs (cnt (tab P) (all.take i) + 1)) = true := fun i o ho hM0 => by
    rcases hck with h | h
    · omega
    · obtain ⟨p, hp⟩ : ∃ p, ts[i]? = some p := ⟨_, List.getElem?_eq_getElem (by rw [htl]; exact (List.getElem?_eq_some_iff.1 ho).1)⟩
      have := chkL_spec h.2.2 i o p ho hp
      rw [Nat.zero_add, Nat.zero_add] at this
      simp only [TT, XX, hp]
      exact this
  have hmvs : ∀ (j : Nat) o, all[j]? = some o → moves (tab P) o = true → (j, (HH hs (cnt (tab P) (all.take j))).length, (HH hs (cnt (tab P) (all.take j) + 1)).length) ∈ mvs (tab P) hs 0 0 all := fun j o ho hmo => by
    have := mvs_mem (hs := hs) (j := 0) (k := 0) ho hmo
    rwa [Nat.zero_add, Nat.zero_add] at this
  have away : ∀ (i j : Nat) o o', all[i]? = some o → all[j]? = some o' → moves (tab P) o' = true → j ≠ i → ¬ bef cl j i = true → ∀ z ∈ idsA (XX ts i), z < (HH hs (cnt (tab P) (all.take j))).length ∨ (HH hs (cnt (tab P) (all.take j) + 1)).length ≤ z := fun i j o o' ho ho' hmo hne hnb z hz => by
    have := hone i o ho (Nat.lt_of_le_of_lt (Nat.zero_le _) (hrank j o' ho' hmo))
    simp only [chkOne, Bool.and_eq_true] at this
    exact away_spec this.1 j _ _ (hmvs j o' ho' hmo) hne hnb z hz
  have opsM : ∀ (i : Nat) o, all[i]? = some o → moves (tab P) o = true → ∀ z ∈ opIds o (TT ts t' i), z < (HH hs (cnt (tab P) (all.take i))).length := fun i o ho hmo z hz => by
    have := hone i o ho (Nat.lt_of_le_of_lt (Nat.zero_le _) (hrank i o ho hmo))
    simp only [chkOne, Bool.and_eq_true, hmo, if_true, List.all_eq_true, decide_eq_true_eq] at this
    exact this.2.1 z hz
  have awayO : ∀ (i j : Nat) o o', all[i]? = some o → allocs (tab P) o = true → moves (tab P) o = true → all[j]? = some o' → moves (tab P) o' = true → j ≠ i → ¬ bef cl j i = true → ∀ ob ∈ (HH hs (cnt (tab P) (all.take i) + 1)).drop (HH hs (cnt (tab P) (all.take i))).length, ∀ z ∈ idsOb ob,
      z < (HH hs (cnt (tab P) (all.take j))).length ∨ (HH hs (cnt (tab P) (all.take j) + 1)).length ≤ z := fun i j o o' ho hal hmi ho' hmo hne hnb ob hob z hz => by
    have := hone i o ho (Nat.lt_of_le_of_lt (Nat.zero_le _) (hrank j o' ho' hmo))
    simp only [chkOne, Bool.and_eq_true, hmi, hal, if_true] at this
    exact away_spec this.2.2 j _ _ (hmvs j o' ho' hmo) hne hnb z (List.mem_flatMap.2 ⟨ob, hob, hz⟩)
  have opsR : ∀ (i j : Nat) o o', all[i]? = some o → moves (tab P) o = false → readsIt (tab P) o = true → all[j]? = some o' → moves (tab P) o' = true → ¬ bef cl j i = true → ∀ z ∈ opIds o (TT ts t' i), z < (HH hs (cnt (tab P) (all.take j))).length ∨ (HH hs (cnt (tab P) (all.take j) + 1)).length ≤ z := fun i j o o' ho hmi hri ho' hmo hnb z hz => by
    have := hone i o ho (Nat.lt_of_le_of_lt (Nat.zero_le _) (hrank j o' ho' hmo))
    simp only [chkOne, Bool.and_eq_true, hmi, hri, Bool.false_eq_true, if_false, if_true] at this
    refine away_spec this.2 j _ _ (hmvs j o' ho' hmo) (fun e => ?_) hnb z hz
    subst e
    rw [ho] at ho'
    obtain rfl := Option.some.inj ho'
    rw [hmi] at hmo
    cases hmo
  have hH : 0 < M → (∀ k, k < M → (HH hs k).length ≤ (HH hs (k + 1)).length) ∧ ∀ k, idsIn (HH hs k) = true := fun hM0 => by
    rcases hck with h | h
    · omega
    · have := chkH_spec h.1
      exact ⟨fun k hk => this.1 k (by omega), this.2⟩
  have lens : ∀ (b a : Nat), a ≤ b → b ≤ M → (HH hs a).length ≤ (HH hs b).length := by
    intro b
    induction b with
    | zero => intro a ha _; rw [Nat.le_zero.1 ha]; exact Nat.le_refl _
    | succ b ih =>
      intro a ha hb
      rcases Nat.lt_or_ge a (b + 1) with h | h
      · exact Nat.le_trans (ih a (by omega) (by omega)) ((hH (by omega)).1 b (by omega))
      · rw [show a = b + 1 by omega]; exact Nat.le_refl _
  -- what an allocation does in the text's order
  have hgrow1 : ∀ (j : Nat) o, all[j]? = some o → allocs (tab P) o = true → moves (tab P) o = true → HH hs (cnt (tab P) (all.take j) + 1) = HH hs (cnt (tab P) (all.take j)) ∨ ∃ ob, HH hs (cnt (tab P) (all.take j) + 1) = HH hs (cnt (tab P) (all.take j)) ++ [ob] := fun j o ho hal hmo => by
    have h := (hstep j o ho).1
    rw [cnt_take_succ ho, hmo, if_pos rfl] at h
    unfold stepAt at h
    split at h
    · obtain ⟨mk, ob, e, -, -⟩ := alloc_op hal h
      exact .inr ⟨ob, e⟩
    · exact .inl (Prod.mk.inj (Option.some.inj h)).2.symm
    · cases h
  have hgrow : ∀ (b a : Nat), a ≤ b → b ≤ M → (∀ (j : Nat) o, all[j]? = some o → moves (tab P) o = true → allocs (tab P) o = false → a ≤ cnt (tab P) (all.take j) → ¬ cnt (tab P) (all.take j) < b) →
      (∀ z, z < (HH hs a).length → (HH hs b)[z]? = (HH hs a)[z]?) ∧ ∀ z, (HH hs a).length ≤ z → z < (HH hs b).length → ∃ (j : Nat) (o : Oper), all[j]? = some o ∧ allocs (tab P) o = true ∧ moves (tab P) o = true ∧ a ≤ cnt (tab P) (all.take j) ∧ cnt (tab P) (all.take j) < b ∧
        (HH hs (cnt (tab P) (all.take j))).length = z ∧ (HH hs (cnt (tab P) (all.take j) + 1)).length = z + 1 ∧ (HH hs b)[z]? = (HH hs (cnt (tab P) (all.take j) + 1))[z]? := by
    intro b
    induction b with
    | zero => intro a ha _ _; rw [Nat.le_zero.1 ha]; exact ⟨fun z _ => rfl, fun z h1 h2 => by omega⟩
    | succ b ih =>
      intro a ha hb hno
      rcases Nat.lt_or_ge a (b + 1) with h | h
      · obtain ⟨k1, k2⟩ := ih a (by omega) (by omega) (fun j o ho hmo hal h1 h2 => hno j o ho hmo hal h1 (by omega))
        obtain ⟨j, o, hj, ho, hmo, hc⟩ := cnt_rank (τ := tab P) (l := all) (k := b) (n := all.length) (by rw [List.take_length]; omega)
        have hal : allocs (tab P) o = true := by
          cases hal : allocs (tab P) o with
          | true => rfl
          | false => exact absurd (by omega) (hno j o ho hmo hal (by omega))
        have hg := hgrow1 j o ho hal hmo
        rw [hc] at hg
        rcases hg with hg | ⟨ob, hg⟩
        · rw [hg]
          exact ⟨k1, fun z h1 h2 => by obtain ⟨j', o', q1, q2, q3, q4, q5, q6⟩ := k2 z h1 h2; exact ⟨j', o', q1, q2, q3, q4, by omega, q6⟩⟩
        · have hl : (HH hs (b + 1)).length = (HH hs b).length + 1 := by rw [hg]; simp
          have hlow : ∀ z, z < (HH hs b).length → (HH hs (b + 1))[z]? = (HH hs b)[z]? := fun z hz => by rw [hg, List.getElem?_append_left hz]
          have hab := lens b a (by omega) (by omega)
          refine ⟨fun z hz => by rw [hlow z (by omega)]; exact k1 z hz, fun z h1 h2 => ?_⟩
          rcases Nat.lt_or_ge z (HH hs b).length with hz | hz
          · obtain ⟨j', o', q1, q2, q3, q4, q5, q6, q7, q8⟩ := k2 z h1 hz
            exact ⟨j', o', q1, q2, q3, q4, by omega, q6, q7, by rw [hlow z hz]; exact q8⟩
          · exact ⟨j, o, ho, hal, hmo, by omega, by omega, by rw [hc]; omega, by rw [hc]; omega, by rw [hc]⟩
      · rw [show a = b + 1 by omega]
        exact ⟨fun z _ => rfl, fun z h1 h2 => by omega⟩
  -- in the text's order
  have hagT : ∀ i, i ≤ all.length → Agrees all (XX ts) t0 (· < i) (TT ts t' i) := by
    intro i
    induction i with
    | zero => exact fun _ => ⟨by rw [hT0], fun j o d _ _ hj => absurd hj (Nat.not_lt_zero j), fun d _ => by rw [hT0]⟩
    | succ i ih =>
      intro hi
      obtain ⟨o, ho⟩ : ∃ o, all[i]? = some o := ⟨_, List.getElem?_eq_getElem (by omega)⟩
      rw [(hstep i o ho).2]
      exact (ih (by omega)).put ap ho (fun j => by omega)
  refine wp_region_any hm ?_
  have hpreds : ∀ (listed : Array Bool) (o : Oper), (∀ e ∈ o.after, Region.binds .any e = true → listed.getD e.on false = true) ↔ Preds (fun i => listed.getD i false = true) o := fun listed o => by
    unfold Preds
    simp only [Array.mem_toList_iff]
  have main : ∀ (fuel : Nat) (listed : Array Bool) (a : Act) (I : Imm) (m : List Loc) (w : World) (t : List A) (k : Nat) (hS : List Ob), listed.size = all.length → listed.toList.countP (fun b => b) + fuel = all.length →
      (∀ (i : Nat) o, all[i]? = some o → listed.getD i false = true → Preds (fun i => listed.getD i false = true) o) → Agrees all (XX ts) t0 (fun i => listed.getD i false = true) t →
      k ≤ M → (∀ (j : Nat) o, all[j]? = some o → moves (tab P) o = true → allocs (tab P) o = false → (listed.getD j false = true ↔ cnt (tab P) (all.take j) < k)) →
      (∀ (j : Nat) o, all[j]? = some o → moves (tab P) o = true → cnt (tab P) (all.take j) < k → listed.getD j false = true) →
      hS.length = (HH hs M).length → (∀ z, z < (HH hs k).length → hS[z]? = (HH hs k)[z]?) →
      (∀ (j : Nat) o, all[j]? = some o → allocs (tab P) o = true → moves (tab P) o = true → listed.getD j false = true → k ≤ cnt (tab P) (all.take j) → (HH hs (cnt (tab P) (all.take j))).length < (HH hs (cnt (tab P) (all.take j) + 1)).length →
        hS[(HH hs (cnt (tab P) (all.take j))).length]? = (HH hs (cnt (tab P) (all.take j) + 1))[(HH hs (cnt (tab P) (all.take j))).length]?) →
      (∀ z, (HH hs k).length ≤ z → z < (HH hs M).length → (∀ (j : Nat) o, all[j]? = some o → allocs (tab P) o = true → moves (tab P) o = true → listed.getD j false = true → k ≤ cnt (tab P) (all.take j) → (HH hs (cnt (tab P) (all.take j))).length < (HH hs (cnt (tab P) (all.take j) + 1)).length →
        z ≠ (HH hs (cnt (tab P) (all.take j))).length) → hS[z]? = some .dead) →
      Step I0 m0 h0 w0 I m hS w → TRel I m t a → (∀ (d : Nat) x, (∀ (j : Nat) o, all[j]? = some o → o.dst = some d → ¬ listed.getD j false = true) → t[d]? = some x → VRel I0 m0 x (a.tmps.getD d undef)) → wpAny P .any ops Q fuel listed a w := by
    intro fuel
    induction fuel with
    | zero =>
      intro listed a I m w t k hS hls hcn hdown hag hkle hmC hmA hSl v1 v2 v3 st tr told
      have hallt : ∀ i, i < all.length → listed.getD i false = true := fun i hi => by
        have : listed.toList.countP (fun b => b) = listed.toList.length := by rw [Array.length_toList, hls]; omega
        have := List.countP_eq_length.1 this (listed.getD i false) (by
          have hi' : i < listed.size := by omega
          simp [hi'])
        exact this
      have hrd : Region.ready .any ops listed = [] := by
        rw [List.eq_nil_iff_forall_not_mem]
        intro i hi
        rw [mem_ready] at hi
        obtain ⟨h0, o, ho, _⟩ := hi
        have hlt : i < all.length := by rw [← hsz]; exact (Array.getElem?_eq_some_iff.1 ho).1
        have h1 := hallt i hlt
        have hlt' : i < listed.size := by omega
        simp [hlt'] at h0 h1
        rw [h0] at h1
        cases h1
      have ht : t = t' := by
        rw [← hTn]
        refine List.ext_getElem? fun d => hag.same ap (hagT all.length (Nat.le_refl _)) fun j o hj _ => ?_
        have := (List.getElem?_eq_some_iff.1 hj).1
        exact ⟨fun _ => this, fun _ => hallt j this⟩
      have hh : hS = h1 := by
        rw [← hHn]
        obtain ⟨g1, g2⟩ := hgrow M k hkle (Nat.le_refl _) (fun j o ho hmo hal h1 _ => by
          have := (hmC j o ho hmo hal).1 (hallt j (List.getElem?_eq_some_iff.1 ho).1)
          omega)
        refine List.ext_getElem? fun z => ?_
        rcases Nat.lt_or_ge z (HH hs M).length with hz | hz
        · rcases Nat.lt_or_ge z (HH hs k).length with hzk | hzk
          · rw [v1 z hzk, g1 z hzk]
          · obtain ⟨j, o, q1, q2, q3, q4, q5, q6, q7, q8⟩ := g2 z hzk hz
            rw [q8, ← q6]
            exact v2 j o q1 q2 q3 (hallt j (List.getElem?_eq_some_iff.1 q1).1) q4 (by omega)
        · rw [List.getElem?_eq_none (by omega), List.getElem?_eq_none hz]
      subst ht hh
      exact wpAny_done hrd (hQ I m a w st tr) 0
    | succ fuel ih =>
      intro listed a I m w t k hS hls hcn hdown hag hkle hmC hmA hSl v1 v2 v3 st tr told
      refine ⟨fun hrd => ?_, fun i hi => ?_⟩
      · exfalso
        have : ∀ n, ∀ i, i < n → i < all.length → listed.getD i false = true := by
          intro n
          induction n with
          | zero => intro i hi; omega
          | succ n ihn =>
            intro i hi hil
            obtain ⟨o, ho⟩ : ∃ o, all[i]? = some o := ⟨_, List.getElem?_eq_getElem hil⟩
            cases hli : listed.getD i false with
            | true => rfl
            | false =>
              exfalso
              have hm : i ∈ Region.ready .any ops listed := by
                rw [mem_ready]
                refine ⟨?_, o, by rw [hget]; exact ho, (hpreds listed o).2 fun e he hb => ?_⟩
                · have hlt' : i < listed.size := by omega
                  simp [hlt'] at hli ⊢
                  exact hli
                · have := hedge i o ho e he hb
                  exact ihn e.on (by omega) (by omega)
              rw [hrd] at hm
              cases hm
        have hc : listed.toList.countP (fun b => b) = listed.toList.length := by
          rw [List.countP_eq_length]
          intro b hb
          obtain ⟨i, hi, rfl⟩ := List.getElem_of_mem hb
          have hi' : i < listed.size := by simpa using hi
          have := this (i + 1) i (by omega) (by omega)
          simp [hi'] at this
          simpa using this
        rw [Array.length_toList, hls] at hc
        omega
      · rw [mem_ready] at hi
        obtain ⟨hil, o, ho, hpr⟩ := hi
        rw [hget] at ho
        have hil' : i < all.length := (List.getElem?_eq_some_iff.1 ho).1
        have hilf : listed.getD i false = false := by
          have hlt' : i < listed.size := by omega
          simp [hlt'] at hil ⊢
          exact hil
        have hni : ¬ listed.getD i false = true := by rw [hilf]; decide
        have hPr := (hpreds listed o).1 hpr
        have hb := hbef (fun i => listed.getD i false = true) hdown i o ho hPr
        have hlb : ∀ (j j' : Nat) o', all[j]? = some o' → listed.getD j false = true → ¬ listed.getD j' false = true → ¬ bef cl j' j = true := fun j j' o' hj hlj hn hbj => hn (hbef (fun i => listed.getD i false = true) hdown j o' hj (hdown j o' hj hlj) j' hbj)
        have hnb : ∀ (j : Nat) o', all[j]? = some o' → bef cl i j = true → ¬ listed.getD j false = true := fun j o' hj hbj hlj => hlb j i o' hj hlj hni hbj
        -- what it meets
        have htt : ∀ d ∈ looks all o, t[d]? = (TT ts t' i)[d]? := fun d hd => by
          refine hag.same ap (hagT i (by omega)) fun j o' hj hdj => ?_
          rcases Nat.lt_trichotomy j i with h | h | h
          · exact ⟨fun _ => h, fun _ => hb j ((hlook i j o o' d ho hj hdj hd (by omega)).1 h)⟩
          · subst h
            exact ⟨fun hl => absurd hl hni, fun hl => (by omega)⟩
          · exact ⟨fun hl => absurd hl (hnb j o' hj ((hlook i j o o' d ho hj hdj hd (by omega)).2 h)), fun hl => by omega⟩
        have hopt : ∀ x ∈ o.op.operands.toList, ofOp t x = ofOp (TT ts t' i) x := fun x hx => by
          cases x with
          | tmp d => simp only [ofOp, List.getD_eq_getElem?_getD, htt d (opTmps_looks (mem_opTmps hx))]
          | _ => rfl
        have hids : opIds o t = opIds o (TT ts t' i) := by
          unfold opIds
          rw [List.map_congr_left hopt]
        -- ranks of those that haven't been
        have hunl : ∀ (j : Nat) o', all[j]? = some o' → moves (tab P) o' = true → ¬ listed.getD j false = true → k ≤ cnt (tab P) (all.take j) := fun j o' hj hmo' hn => by
          rcases Nat.lt_or_ge (cnt (tab P) (all.take j)) k with h | h
          · exact absurd (hmA j o' hj hmo' h) hn
          · exact h
        have hranks : ∀ (j j' : Nat) o1 o2, all[j]? = some o1 → all[j']? = some o2 → moves (tab P) o1 = true → moves (tab P) o2 = true → cnt (tab P) (all.take j) = cnt (tab P) (all.take j') → j = j' := fun j j' o1 o2 h1 h2 h3 h4 h5 => by
          rcases Nat.lt_trichotomy j j' with h | h | h
          · have := rank_lt h1 h3 h; omega
          · exact h
          · have := rank_lt h2 h4 h; omega
        -- what the objects name
        have hob : 0 < M → ∀ (z : Nat) ob, hS[z]? = some ob → ∀ u ∈ idsOb ob, u < (HH hs M).length ∧ ∀ (j : Nat) o', all[j]? = some o' → moves (tab P) o' = true → ¬ listed.getD j false = true → u < (HH hs (cnt (tab P) (all.take j))).length ∨ (HH hs (cnt (tab P) (all.take j) + 1)).length ≤ u := fun hM0 z ob hz u hu => by
          have hzN : z < (HH hs M).length := by rw [← hSl]; exact (List.getElem?_eq_some_iff.1 hz).1
          rcases Nat.lt_or_ge z (HH hs k).length with hzk | hzk
          · rw [v1 z hzk] at hz
            have := idsIn_spec ((hH hM0).2 k) hz hu
            have hl := lens M k hkle (Nat.le_refl _)
            refine ⟨by omega, fun j o' hj hmo' hn => .inl ?_⟩
            have := lens _ k (hunl j o' hj hmo' hn) (Nat.le_of_lt (hrank j o' hj hmo'))
            omega
          · by_cases hex : ∃ (j : Nat) (o' : Oper), all[j]? = some o' ∧ allocs (tab P) o' = true ∧ moves (tab P) o' = true ∧ listed.getD j false = true ∧ k ≤ cnt (tab P) (all.take j) ∧ (HH hs (cnt (tab P) (all.take j))).length < (HH hs (cnt (tab P) (all.take j) + 1)).length ∧ z = (HH hs (cnt (tab P) (all.take j))).length
            · obtain ⟨j, o', q1, q2, q3, q4, q5, q6, rfl⟩ := hex
              rw [v2 j o' q1 q2 q3 q4 q5 q6] at hz
              have h1 := idsIn_spec ((hH hM0).2 _) hz hu
              have h2 := lens M (cnt (tab P) (all.take j) + 1) (hrank j o' q1 q3) (Nat.le_refl _)
              refine ⟨by omega, fun j2 o2 hj2 hmo2 hn => ?_⟩
              refine awayO j j2 o' o2 q1 q2 q3 hj2 hmo2 (fun e => hn (e ▸ q4)) (hlb j j2 o' q1 q4 hn) ob ?_ u hu
              rw [List.mem_iff_getElem?]
              exact ⟨0, by rw [List.getElem?_drop, Nat.add_zero]; exact hz⟩
            · rw [v3 z hzk hzN fun j o' q1 q2 q3 q4 q5 q6 e => hex ⟨j, o', q1, q2, q3, q4, q5, q6, e⟩] at hz
              obtain rfl := Option.some.inj hz
              simp [idsOb] at hu
        -- what the places name
        have htn : ∀ (d : Nat) x, t[d]? = some x → (VRel I0 m0 x (a.tmps.getD d undef)) ∨ ∀ (j : Nat) o', all[j]? = some o' → moves (tab P) o' = true → ¬ listed.getD j false = true → ∀ u ∈ idsA x, u < (HH hs (cnt (tab P) (all.take j))).length ∨ (HH hs (cnt (tab P) (all.take j) + 1)).length ≤ u := fun d x hx => by
          by_cases hex : ∃ (j : Nat) (o' : Oper), all[j]? = some o' ∧ o'.dst = some d ∧ listed.getD j false = true
          · obtain ⟨j, o', q1, q2, q3⟩ := hex
            have hd : d < t0.length := by rw [← hag.len]; exact (List.getElem?_eq_some_iff.1 hx).1
            have := hag.new j o' d q1 q2 q3 hd
            rw [hx] at this
            obtain rfl := Option.some.inj this
            exact .inr fun j2 o2 hj2 hmo2 hn u hu => away j j2 o' o2 q1 hj2 hmo2 (fun e => hn (e ▸ q3)) (hlb j j2 o' q1 q3 hn) u hu
          · exact .inl (told d x (fun j o' q1 q2 q3 => hex ⟨j, o', q1, q2, q3⟩) hx)
        have hL : ∀ j, (listed.setIfInBounds i true).getD j false = true ↔ listed.getD j false = true ∨ j = i := fun j => by
          by_cases hji : j = i
          · subst hji
            have hlt' : j < listed.size := by omega
            simp [hlt']
          · rw [getD_set_ne false (fun e => hji e.symm)]
            simp [hji]
        -- what follows
        have next : ∀ (y : Value) I' m' w' k' hS', k' ≤ M →
            (∀ (j : Nat) o, all[j]? = some o → moves (tab P) o = true → allocs (tab P) o = false → ((listed.getD j false = true ∨ j = i) ↔ cnt (tab P) (all.take j) < k')) →
            (∀ (j : Nat) o, all[j]? = some o → moves (tab P) o = true → cnt (tab P) (all.take j) < k' → (listed.getD j false = true ∨ j = i)) →
            hS'.length = (HH hs M).length → (∀ z, z < (HH hs k').length → hS'[z]? = (HH hs k')[z]?) →
            (∀ (j : Nat) o, all[j]? = some o → allocs (tab P) o = true → moves (tab P) o = true → (listed.getD j false = true ∨ j = i) → k' ≤ cnt (tab P) (all.take j) → (HH hs (cnt (tab P) (all.take j))).length < (HH hs (cnt (tab P) (all.take j) + 1)).length →
              hS'[(HH hs (cnt (tab P) (all.take j))).length]? = (HH hs (cnt (tab P) (all.take j) + 1))[(HH hs (cnt (tab P) (all.take j))).length]?) →
            (∀ z, (HH hs k').length ≤ z → z < (HH hs M).length → (∀ (j : Nat) o, all[j]? = some o → allocs (tab P) o = true → moves (tab P) o = true → (listed.getD j false = true ∨ j = i) → k' ≤ cnt (tab P) (all.take j) → (HH hs (cnt (tab P) (all.take j))).length < (HH hs (cnt (tab P) (all.take j) + 1)).length →
              z ≠ (HH hs (cnt (tab P) (all.take j))).length) → hS'[z]? = some .dead) →
            Step I0 m0 h0 w0 I' m' hS' w' → VRel I' m' (XX ts i) y → (∀ (d : Nat) x, o.dst ≠ some d → t[d]? = some x → VRel I' m' x (a.tmps.getD d undef)) → wpAny P .any ops Q fuel (listed.setIfInBounds i true) (a.put o.dst y) w' := fun y I' m' w' k' hS' n1 n2 n3 n4 n5 n6 n7 st' hv hold => by
          refine ih (listed.setIfInBounds i true) (a.put o.dst y) I' m' w' (putT t o.dst (XX ts i)) k' hS' (by simp [hls]) ?_ ?_ (hag.put ap ho hL) n1 (fun j o' q1 q2 q3 => by rw [hL]; exact n2 j o' q1 q2 q3) (fun j o' q1 q2 q3 => by rw [hL]; exact n3 j o' q1 q2 q3) n4 n5
            (fun j o' q1 q2 q3 q4 q5 q6 => n6 j o' q1 q2 q3 ((hL j).1 q4) q5 q6) (fun z q1 q2 q3 => n7 z q1 q2 fun j o' p1 p2 p3 p4 p5 p6 => q3 j o' p1 p2 p3 ((hL j).2 p4) p5 p6) st' (put_rel (I0 := I0) (m0 := m0) tr o.dst hv hold) ?_
          · rw [Array.toList_setIfInBounds, List.countP_set (by rw [Array.length_toList]; omega)]
            have hlt' : i < listed.size := by omega
            have e : listed.toList[i]'(by simpa using hlt') = false := by
              simp [hlt'] at hilf
              simpa using hilf
            simp only [e, Bool.false_eq_true, if_false, if_true]
            omega
          · intro j o' hj hlj e he hbe
            rw [hL] at hlj
            refine (hL e.on).2 (.inl ?_)
            rcases hlj with h | h
            · exact hdown j o' hj h e he hbe
            · subst h
              rw [ho] at hj
              obtain rfl := Option.some.inj hj
              exact hPr e he hbe
          · intro d x hd hx
            have hne : o.dst ≠ some d := fun e => hd i o ho e ((hL i).2 (.inr rfl))
            rw [putT_old hne] at hx
            rw [put_old hne]
            exact told d x (fun j o' q1 q2 q3 => hd j o' q1 q2 ((hL j).2 (.inl q3))) hx
        unfold wpOp
        rw [hget, ho]
        dsimp only
        have hst0 := (hstep i o ho).1
        rw [cnt_take_succ ho] at hst0
        have hstt : ∀ hp, stepAt (tab P) F all o t hp = stepAt (tab P) F all o (TT ts t' i) hp := fun hp => stepAt_congr htt hp
        cases hmo : moves (tab P) o with
        | false =>
          have hne : ∀ (j : Nat) o', all[j]? = some o' → moves (tab P) o' = true → j ≠ i := fun j o' hj hmo' e => by
            subst e
            rw [ho] at hj
            obtain rfl := Option.some.inj hj
            rw [hmo] at hmo'
            cases hmo'
          simp only [hmo, Bool.false_eq_true, if_false, Nat.add_zero] at hst0
          have hev : stepAt (tab P) F all o t hS = some (XX ts i, hS) := by
            rw [hstt]
            cases hrd : readsIt (tab P) o with
            | false => exact quiet_step (moves_kind hmo hrd) hst0 _
            | true =>
              -- a memory of the text's order that it may meet
              have hk2 : ∀ n, ∃ k2, k ≤ k2 ∧ k2 ≤ M ∧ (∀ (r : Nat) o', r < n → all[r]? = some o' → allocs (tab P) o' = true → moves (tab P) o' = true → bef cl r i = true → cnt (tab P) (all.take r) < k2) ∧
                  (k2 = k ∨ ∃ (r : Nat) (o' : Oper), all[r]? = some o' ∧ allocs (tab P) o' = true ∧ moves (tab P) o' = true ∧ bef cl r i = true ∧ cnt (tab P) (all.take r) + 1 = k2) := by
                intro n
                induction n with
                | zero => exact ⟨k, Nat.le_refl _, hkle, fun r o' h => absurd h (Nat.not_lt_zero r), .inl rfl⟩
                | succ n ihn =>
                  obtain ⟨k2, p1, p2, p3, p4⟩ := ihn
                  by_cases hex : ∃ o', all[n]? = some o' ∧ allocs (tab P) o' = true ∧ moves (tab P) o' = true ∧ bef cl n i = true ∧ k2 ≤ cnt (tab P) (all.take n)
                  · obtain ⟨o', q1, q2, q3, q4, q5⟩ := hex
                    refine ⟨cnt (tab P) (all.take n) + 1, by omega, hrank n o' q1 q3, fun r o2 hr h1 h2 h3 h4 => ?_, .inr ⟨n, o', q1, q2, q3, q4, rfl⟩⟩
                    rcases Nat.lt_or_ge r n with hrn | hrn
                    · have := p3 r o2 hrn h1 h2 h3 h4; omega
                    · rw [show r = n by omega]; omega
                  · refine ⟨k2, p1, p2, fun r o2 hr h1 h2 h3 h4 => ?_, p4⟩
                    rcases Nat.lt_or_ge r n with hrn | hrn
                    · exact p3 r o2 hrn h1 h2 h3 h4
                    · have : r = n := by omega
                      subst this
                      rcases Nat.lt_or_ge (cnt (tab P) (all.take r)) k2 with h | h
                      · exact h
                      · exact absurd ⟨o2, h1, h2, h3, h4, h⟩ hex
              obtain ⟨k2, p1, p2, p3, p4⟩ := hk2 all.length
              have hnoc : ∀ (j : Nat) o', all[j]? = some o' → moves (tab P) o' = true → allocs (tab P) o' = false → k ≤ cnt (tab P) (all.take j) → ¬ cnt (tab P) (all.take j) < k2 := fun c o2 hc hmo2 hal2 h1 h2 => by
                rcases p4 with rfl | ⟨r, o', q1, q2, q3, q4, q5⟩
                · omega
                · have hcr : c < r := by
                    rcases Nat.lt_trichotomy c r with h | h | h
                    · exact h
                    · subst h; rw [q1] at hc; obtain rfl := Option.some.inj hc; rw [hal2] at q2; cases q2
                    · have := rank_lt q1 q3 h; omega
                  have := (hmC c o2 hc hmo2 hal2).1 (hb c (hthree i r c o o' o2 ho q1 hc hrd q2 q4 hmo2 hal2 hcr))
                  omega
              have hat : stepAt (tab P) F all o (TT ts t' i) (HH hs k2) = some (XX ts i, HH hs k2) := by
                rcases hck with h1 | h1
                · have e : cnt (tab P) (all.take i) ≤ cnt (tab P) all := cnt_take_le'
                  have e1 : cnt (tab P) (all.take i) = 0 := by omega
                  rw [e1] at hst0
                  rw [show k2 = 0 by omega]
                  exact hst0
                · obtain ⟨p, hp⟩ : ∃ p, ts[i]? = some p := ⟨_, List.getElem?_eq_getElem (by rw [htl]; exact hil')⟩
                  have hc := chkR_spec h1.2.1 i o p ho hp hrd
                  have hkl : k2 < hs.length := by omega
                  have := chkAt_spec hc k2 (HH hs k2) (by unfold HH; rw [List.getD_eq_getElem?_getD, List.getElem?_eq_getElem hkl]; rfl) (okAt_of fun n o' hn hmn => by
                    rw [Nat.zero_add, Nat.zero_add, Nat.zero_add]
                    refine ⟨fun hbn => ?_, fun hbn => ?_⟩
                    · cases hal : allocs (tab P) o' with
                      | true => have := p3 n o' (List.getElem?_eq_some_iff.1 hn).1 hn hal hmn hbn; omega
                      | false => have := (hmC n o' hn hmn hal).1 (hb n hbn); omega
                    · rcases p4 with rfl | ⟨r, o2, q1, q2, q3, q4, q5⟩
                      · have := hunl n o' hn hmn (hnb n o' hn hbn); omega
                      · have h2 := hbeflt i r o ho q4
                        have h3 := hbeflt n i o' hn hbn
                        have := rank_lt q1 q3 (Nat.lt_trans h2 h3)
                        omega)
                  simp only [TT, XX, hp]
                  exact this
              obtain ⟨g1, g2⟩ := hgrow k2 k p1 p2 hnoc
              unfold stepAt at hat ⊢
              split at hat
              · rename_i hw
                have hkd : kindOf (tab P) o = 1 := by
                  have := kind_le (τ := tab P) o
                  have h : kindOf (tab P) o = 0 ∨ kindOf (tab P) o = 1 ∨ kindOf (tab P) o = 2 := by omega
                  rcases h with h | h | h
                  · simp [readsIt, h] at hrd
                  · exact h
                  · simp [readsIt, h] at hrd
                refine reads_local hkd hat fun z hz ob hob => ?_
                have hzl := (List.getElem?_eq_some_iff.1 hob).1
                rcases Nat.lt_or_ge z (HH hs k).length with hzk | hzk
                · rw [v1 z hzk, ← g1 z hzk]; exact hob
                · obtain ⟨j, o', q1, q2, q3, q4, q5, q6, q7, q8⟩ := g2 z hzk hzl
                  by_cases hlj : listed.getD j false = true
                  · have := v2 j o' q1 q2 q3 hlj q4 (by omega)
                    rw [q6] at this
                    rw [this, ← q8]
                    exact hob
                  · have := opsR i j o o' ho hmo hrd q1 q3 (fun hbj => hlj (hb j hbj)) z hz
                    omega
              · obtain ⟨e1, -⟩ := Prod.mk.inj (Option.some.inj hat)
                rw [e1]
              · cases hat
          have fin := fun (y : Value) I' m' w' => next y I' m' w' k hS hkle (fun j o' q1 q2 q3 => ⟨fun h => h.elim (hmC j o' q1 q2 q3).1 fun e => absurd e (hne j o' q1 q2), fun h => .inl ((hmC j o' q1 q2 q3).2 h)⟩)
            (fun j o' q1 q2 q3 => .inl (hmA j o' q1 q2 q3)) hSl v1 (fun j o' q1 q2 q3 q4 => v2 j o' q1 q2 q3 (q4.elim (fun h => h) fun e => absurd e (hne j o' q1 q3))) (fun z q1 q2 q3 => v3 z q1 q2 fun j o' p1 p2 p3 p4 => q3 j o' p1 p2 p3 (.inl p4))
          unfold stepAt at hev
          split at hev
          · rename_i hw
            rw [← hall] at hw
            rw [wanted_sound tr hw, if_pos rfl]
            exact .inl (sound_op hF st.rel tr hev fun I1 m1 y w1 hs1 hv => fin y I1 m1 w1 (st.trans hs1) hv (fun d x _ hx => (tr.rel d x hx).mono hs1.ile hs1.mle))
          · rename_i hw
            rw [← hall] at hw
            rw [wanted_sound tr hw, if_neg (by decide)]
            obtain ⟨e1, e2⟩ := Prod.mk.inj (Option.some.inj hev)
            exact fin undef I m w st (by rw [← e1]; exact .flat (.v _)) (fun d x _ hx => tr.rel d x hx)
          · cases hev
        | true =>
          simp only [hmo, if_true] at hst0
          have hq := hunl i o ho hmo hni
          have hqM := hrank i o ho hmo
          have hM0 : 0 < M := by omega
          generalize hqq : cnt (tab P) (all.take i) = q at *
          have lq1 := lens (q + 1) q (by omega) (by omega)
          have lqN := lens M (q + 1) (by omega) (Nat.le_refl _)
          have lkq := lens q k hq (by omega)
          have l0q := lens q 0 (Nat.zero_le _) (by omega)
          rw [hH0] at l0q
          rw [← hstt] at hst0
          have hsame : ∀ (j : Nat) o', all[j]? = some o' → moves (tab P) o' = true → cnt (tab P) (all.take j) = q → j = i := fun j o' hj hmo' e => hranks j i o' o hj ho hmo' hmo (by rw [e, hqq])
          -- the lower part names nothing of the upper
          have hclosed : ∀ (z : Nat) ob, z < (HH hs q).length → hS[z]? = some ob → ∀ u ∈ idsOb ob, u < (HH hs q).length := fun z ob hz hob u hu => by
            rcases Nat.lt_or_ge z (HH hs k).length with hzk | hzk
            · rw [v1 z hzk] at hob
              have := idsIn_spec ((hH hM0).2 k) hob hu
              omega
            · by_cases hex : ∃ (j : Nat) (o' : Oper), all[j]? = some o' ∧ allocs (tab P) o' = true ∧ moves (tab P) o' = true ∧ listed.getD j false = true ∧ k ≤ cnt (tab P) (all.take j) ∧ (HH hs (cnt (tab P) (all.take j))).length < (HH hs (cnt (tab P) (all.take j) + 1)).length ∧ z = (HH hs (cnt (tab P) (all.take j))).length
              · obtain ⟨j, o', q1, q2, q3, q4, q5, q6, rfl⟩ := hex
                rw [v2 j o' q1 q2 q3 q4 q5 q6] at hob
                have h1 := idsIn_spec ((hH hM0).2 _) hob hu
                have hjq : cnt (tab P) (all.take j) < q := by
                  rcases Nat.lt_or_ge (cnt (tab P) (all.take j)) q with h | h
                  · exact h
                  · have := lens (cnt (tab P) (all.take j)) q h (Nat.le_of_lt (hrank j o' q1 q3)); omega
                have h2 := lens q (cnt (tab P) (all.take j) + 1) (by omega) (by omega)
                omega
              · rw [v3 z hzk (by omega) fun j o' q1 q2 q3 q4 q5 q6 e => hex ⟨j, o', q1, q2, q3, q4, q5, q6, e⟩] at hob
                obtain rfl := Option.some.inj hob
                simp [idsOb] at hu
          -- what is behind it
          have fin : ∀ hA : List Ob, hA.length = (HH hs (q + 1)).length → (allocs (tab P) o = false → hA = HH hs (q + 1)) → (allocs (tab P) o = true → (∀ z, z < (HH hs q).length → hA[z]? = hS[z]?) ∧ ∀ z, (HH hs q).length ≤ z → z < hA.length → hA[z]? = (HH hs (q + 1))[z]?) → ∀ y I' m' w',
              Step I0 m0 h0 w0 I' m' (hA ++ hS.drop hA.length) w' → VRel I' m' (XX ts i) y → (∀ (d : Nat) x, o.dst ≠ some d → t[d]? = some x → VRel I' m' x (a.tmps.getD d undef)) → wpAny P .any ops Q fuel (listed.setIfInBounds i true) (a.put o.dst y) w' := fun hA hAl hch hall' y I' m' w' => by
            have hlow : ∀ z, z < hA.length → (hA ++ hS.drop hA.length)[z]? = hA[z]? := fun z hz => List.getElem?_append_left hz
            have hhigh : ∀ z, hA.length ≤ z → (hA ++ hS.drop hA.length)[z]? = hS[z]? := fun z hz => by
              rw [List.getElem?_append_right hz, List.getElem?_drop]
              congr 1
              omega
            have hlen2 : (hA ++ hS.drop hA.length).length = (HH hs M).length := by simp [hSl]; omega
            -- what a mark of another lies at
            have apart : ∀ (j : Nat) o', all[j]? = some o' → moves (tab P) o' = true → j ≠ i → (HH hs (cnt (tab P) (all.take j))).length < (HH hs (cnt (tab P) (all.take j) + 1)).length → (HH hs (cnt (tab P) (all.take j))).length < (HH hs q).length ∨ (HH hs (q + 1)).length ≤ (HH hs (cnt (tab P) (all.take j))).length := fun j o' hj hmo' hne hg => by
              have hjM := hrank j o' hj hmo'
              rcases Nat.lt_trichotomy (cnt (tab P) (all.take j)) q with h | h | h
              · have := lens q (cnt (tab P) (all.take j) + 1) (by omega) (by omega); omega
              · exact absurd (hsame j o' hj hmo' h) hne
              · exact .inr (lens _ (q + 1) (by omega) (by omega))
            cases hal : allocs (tab P) o with
            | true =>
              obtain ⟨a1, a2⟩ := hall' hal
              refine next y I' m' w' k _ hkle (fun j o' q1 q2 q3 => ⟨fun h => h.elim (hmC j o' q1 q2 q3).1 fun e => ?_, fun h => .inl ((hmC j o' q1 q2 q3).2 h)⟩) (fun j o' q1 q2 q3 => .inl (hmA j o' q1 q2 q3)) hlen2 (fun z hz => ?_) (fun j o' q1 q2 q3 q4 q5 q6 => ?_) (fun z q1 q2 q3 => ?_)
              · subst e
                rw [ho] at q1
                obtain rfl := Option.some.inj q1
                rw [hal] at q3
                cases q3
              · rw [hlow z (by omega), a1 z (by omega)]; exact v1 z hz
              · by_cases e : j = i
                · subst e
                  rw [hqq] at q6 ⊢
                  rw [hlow _ (by omega), a2 _ (Nat.le_refl _) (by omega)]
                · have hl := q4.elim (fun h => h) fun h => absurd h e
                  rcases apart j o' q1 q3 e q6 with h | h
                  · rw [hlow _ (by omega), a1 _ h]; exact v2 j o' q1 q2 q3 hl q5 q6
                  · rw [hhigh _ (by omega)]; exact v2 j o' q1 q2 q3 hl q5 q6
              · have hold : hS[z]? = some .dead := v3 z q1 q2 fun j o' p1 p2 p3 p4 p5 p6 => q3 j o' p1 p2 p3 (.inl p4) p5 p6
                rcases Nat.lt_or_ge z (HH hs q).length with hz | hz
                · rw [hlow z (by omega), a1 z hz]; exact hold
                · rcases Nat.lt_or_ge z hA.length with hz2 | hz2
                  · exfalso
                    have hg := hgrow1 i o ho hal hmo
                    rw [hqq] at hg
                    rcases hg with hg | ⟨ob, hg⟩
                    · rw [hAl, hg] at hz2; omega
                    · have : (HH hs (q + 1)).length = (HH hs q).length + 1 := by rw [hg]; simp
                      refine q3 i o ho hal hmo (.inr rfl) (by omega) (by rw [hqq]; omega) ?_
                      rw [hqq]
                      omega
                  · rw [hhigh z hz2]; exact hold
            | false =>
              obtain rfl := hch hal
              have hlst : ∀ (j : Nat) o', all[j]? = some o' → moves (tab P) o' = true → cnt (tab P) (all.take j) < q → listed.getD j false = true := fun j o' hj hmo' h => by
                have hji : j < i := by
                  rcases Nat.lt_trichotomy j i with h1 | h1 | h1
                  · exact h1
                  · subst h1; omega
                  · have := rank_lt ho hmo h1; omega
                exact hb j (hchain j i o' o hj ho hji hmo' hmo hal)
              refine next y I' m' w' (q + 1) _ (by omega) (fun j o' q1 q2 q3 => ⟨fun h => h.elim (fun h => by have := (hmC j o' q1 q2 q3).1 h; omega) fun e => by subst e; omega, fun h => ?_⟩) (fun j o' q1 q2 q3 => ?_) hlen2 (fun z hz => hlow z hz) (fun j o' q1 q2 q3 q4 q5 q6 => ?_) (fun z q1 q2 q3 => ?_)
              · rcases Nat.lt_or_ge (cnt (tab P) (all.take j)) q with h1 | h1
                · exact .inl (hlst j o' q1 q2 h1)
                · exact .inr (hsame j o' q1 q2 (by omega))
              · rcases Nat.lt_or_ge (cnt (tab P) (all.take j)) q with h1 | h1
                · exact .inl (hlst j o' q1 q2 h1)
                · exact .inr (hsame j o' q1 q2 (by omega))
              · have hne : j ≠ i := fun e => by subst e; omega
                have hl := q4.elim (fun h => h) fun h => absurd h hne
                rw [hhigh _ (lens _ (q + 1) q5 (Nat.le_of_lt (hrank j o' q1 q3)))]
                exact v2 j o' q1 q2 q3 hl (by omega) q6
              · rw [hhigh z q1]
                refine v3 z (by omega) q2 fun j o' p1 p2 p3 p4 p5 p6 => ?_
                have hne : j ≠ i := fun e => hni (e ▸ p4)
                rcases apart j o' p1 p3 hne p6 with h | h
                · omega
                · rcases Nat.lt_or_ge (cnt (tab P) (all.take j)) (q + 1) with h1 | h1
                  · have := lens (q + 1) (cnt (tab P) (all.take j) + 1) (by omega) (by omega); omega
                  · exact q3 j o' p1 p2 p3 (.inl p4) h1 p6
          have htakel : (hS.take (HH hs q).length).length = (HH hs q).length := by rw [List.length_take]; omega
          have hchp : allocs (tab P) o = false → hS.take (HH hs q).length = HH hs q := fun hal => by
            have hlst : ∀ (j : Nat) o', all[j]? = some o' → moves (tab P) o' = true → cnt (tab P) (all.take j) < q → listed.getD j false = true := fun j o' hj hmo' h => by
              have hji : j < i := by
                rcases Nat.lt_trichotomy j i with h1 | h1 | h1
                · exact h1
                · subst h1; omega
                · have := rank_lt ho hmo h1; omega
              exact hb j (hchain j i o' o hj ho hji hmo' hmo hal)
            obtain ⟨g1, g2⟩ := hgrow q k hq (by omega) (fun j o' hj hmo' hal' h1 h2 => by
              have := (hmC j o' hj hmo' hal').1 (hlst j o' hj hmo' h2)
              omega)
            refine List.ext_getElem? fun z => ?_
            rw [List.getElem?_take]
            split
            · rename_i hz
              rcases Nat.lt_or_ge z (HH hs k).length with hzk | hzk
              · rw [v1 z hzk, g1 z hzk]
              · obtain ⟨j, o', q1, q2, q3, q4, q5, q6, q7, q8⟩ := g2 z hzk hz
                rw [q8, ← q6]
                exact v2 j o' q1 q2 q3 (hlst j o' q1 q3 q5) q4 (by omega)
            · rename_i hz
              rw [List.getElem?_eq_none (by omega)]
          unfold stepAt at hst0
          split at hst0
          · rename_i hw
            rw [← hall] at hw
            rw [wanted_sound tr hw, if_pos rfl]
            obtain ⟨hA, hev, hAl, hfin⟩ : ∃ hA, evOp (tab P) F o t (hS.take (HH hs q).length) = some (XX ts i, hA) ∧ hA.length = (HH hs (q + 1)).length ∧ ∀ y I' m' w',
                Step I0 m0 h0 w0 I' m' (hA ++ hS.drop hA.length) w' → VRel I' m' (XX ts i) y → (∀ (d : Nat) x, o.dst ≠ some d → t[d]? = some x → VRel I' m' x (a.tmps.getD d undef)) → wpAny P .any ops Q fuel (listed.setIfInBounds i true) (a.put o.dst y) w' := by
              cases hal : allocs (tab P) o with
              | false =>
                exact ⟨HH hs (q + 1), by rw [hchp hal]; exact hst0, rfl, fin _ rfl (fun _ => rfl) (fun h => by rw [hal] at h; cases h)⟩
              | true =>
                obtain ⟨mk, ob, e1, e2, e3⟩ := alloc_op hal hst0
                have hl : (hS.take (HH hs q).length ++ [ob]).length = (HH hs (q + 1)).length := by rw [e1]; simp; omega
                refine ⟨hS.take (HH hs q).length ++ [ob], by rw [e3, htakel, ← e2], hl, fin _ hl (fun h => by rw [hal] at h; cases h) (fun _ => ⟨fun z hz => ?_, fun z hz1 hz2 => ?_⟩)⟩
                · rw [List.getElem?_append_left (by omega), List.getElem?_take, if_pos hz]
                · rw [e1, List.getElem?_append_right (by omega), List.getElem?_append_right hz1, htakel]
            have hcong : ∀ hp, evOp (tab P) F o (keepOnly (opTmps o.op.operands.toList) 0 t) hp = evOp (tab P) F o t hp := fun hp => evOp_congr (fun x hx => ofOp_keep fun d hd => mem_opTmps (hd ▸ hx)) hp
            rw [← hcong] at hev
            have relP := st.rel.part (HH hs q).length hclosed
            have trP : TRel I (m.take (HH hs q).length) (keepOnly (opTmps o.op.operands.toList) 0 t) a := ⟨by rw [(keepOnly_get (k := 0)).1]; exact tr.size, fun j x hx => by
              rw [keepOnly_at', Nat.zero_add] at hx
              obtain ⟨x0, hx0, rfl⟩ := Option.map_eq_some_iff.1 hx
              split
              · rename_i hc
                refine (tr.rel j x0 hx0).move (ILe.refl I) fun u hu l hl => ?_
                have hmem : Operand.tmp j ∈ o.op.operands.toList := tmps_mem (by simpa using hc)
                have : u ∈ opIds o (TT ts t' i) := by
                  rw [← hids]
                  exact ids_op hmem (by simp only [ofOp, List.getD_eq_getElem?_getD, hx0]; exact hu)
                have := opsM i o ho hmo u this
                rw [hqq] at this
                rw [List.getElem?_take, if_pos this]
                exact hl
              · exact .any _, tr.defers⟩
            refine .inl (sound_op hF relP trP hev fun I1 mA y w1 stA hv => ?_)
            obtain ⟨st', hle', hsm⟩ := Step.beside rel0 st (n := (HH hs q).length) (by omega) stA (by omega) (by omega) (fun z ob hz hzl u hu => by
              have := (hob hM0 z ob hz u hu).2 i o ho hmo hni
              rw [hqq] at this
              omega) l0q
            refine hfin y I1 _ w1 st' (hv.mono (ILe.refl _) hle') fun d x hd hx => ?_
            rcases htn d x hx with h | h
            · exact h.mono st'.ile st'.mle
            · refine (tr.rel d x hx).move stA.ile fun u hu l hl => hsm u l ?_ hl
              have := h i o ho hmo hni u hu
              rw [hqq] at this
              omega
          · rename_i hw
            rw [← hall] at hw
            rw [wanted_sound tr hw, if_neg (by decide)]
            obtain ⟨e1, e2⟩ := Prod.mk.inj (Option.some.inj hst0)
            have hself : hS.take (HH hs q).length ++ hS.drop (hS.take (HH hs q).length).length = hS := by rw [htakel, List.take_append_drop]
            refine fin (hS.take (HH hs q).length) (by rw [htakel, e2]) (fun hal => by rw [hchp hal, e2]) (fun _ => ⟨fun z hz => by rw [List.getElem?_take, if_pos hz], fun z h1 h2 => by omega⟩) undef I m w (by rw [hself]; exact st) (by rw [← e1]; exact .flat (.v _)) (fun d x _ hx => tr.rel d x hx)
          · cases hst0
  have hrep : ∀ i, (Array.replicate ops.size false).getD i false = false := fun i => by
    rw [Array.getD_eq_getD_getElem?, Array.getElem?_replicate]
    split <;> rfl
  have hpad := Step.pad rel0 ((HH hs M).length - h0.length)
  have hl0 : h0.length ≤ (HH hs M).length := by
    have := lens M 0 (Nat.zero_le _) (Nat.le_refl _)
    rwa [hH0] at this
  refine main ops.size (Array.replicate ops.size false) a0 I0 _ _ t0 0 _ (by simp [hsz]) ?_ (fun i o _ h => by rw [hrep] at h; cases h) ⟨rfl, fun j o d _ _ h => (by rw [hrep] at h; cases h), fun d _ => rfl⟩ (Nat.zero_le _)
    (fun j o _ _ _ => ⟨fun h => (by rw [hrep] at h; cases h), fun h => (by omega)⟩) (fun j o _ _ h => by omega) ?_ (fun z hz => ?_) (fun j o _ _ _ h => by rw [hrep] at h; cases h) (fun z h1 h2 _ => ?_) hpad (tr0.mono hpad.ile hpad.mle) (fun d x _ hx => tr0.rel d x hx)
  · rw [Array.toList_replicate, List.countP_replicate]; simp [hsz]
  · simp; omega
  · rw [hH0] at hz ⊢
    rw [List.getElem?_append_left hz]
  · rw [hH0] at h1
    rw [List.getElem?_append_right h1, List.getElem?_replicate, if_pos (by omega)]
end
end Go.Flat
