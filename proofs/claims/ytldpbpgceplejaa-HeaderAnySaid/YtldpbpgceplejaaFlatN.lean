/-
  A region whose order is open: gone through in the text's order, it is gone through in every order.
-/
import Derived.Test.YtldpbpgceplejaaFlatM
namespace Go.Flat

section
variable {P : Program} {F : Fns}

theorem cnt_take_succ {τ : Tab} {l : List Oper} {i : Nat} {o : Oper} (h : l[i]? = some o) : cnt τ (l.take (i + 1)) = cnt τ (l.take i) + (if moves τ o then 1 else 0) := by
  rw [List.take_add_one, h]
  unfold cnt
  rw [List.filter_append, List.length_append]
  cases hm : moves τ o <;> simp [hm]

theorem cnt_take_le {τ : Tab} {l : List Oper} {i j : Nat} (h : i ≤ j) : cnt τ (l.take i) ≤ cnt τ (l.take j) := by
  unfold cnt
  exact (((List.take_sublist_take_left h).filter _).length_le)

theorem cnt_take_le' {τ : Tab} {l : List Oper} {i : Nat} : cnt τ (l.take i) ≤ cnt τ l := by
  unfold cnt
  exact (((List.take_sublist i l).filter _).length_le)

/-- Of each rank there is one that moves. -/
theorem cnt_rank {τ : Tab} {l : List Oper} {k : Nat} : ∀ {n : Nat}, k < cnt τ (l.take n) → ∃ (j : Nat) (o : Oper), j < n ∧ l[j]? = some o ∧ moves τ o = true ∧ cnt τ (l.take j) = k
  | 0, h => by simp [cnt] at h
  | n + 1, h => by
    cases hn : l[n]? with
    | none =>
      have : l.take (n + 1) = l.take n := by rw [List.take_add_one, hn]; simp
      rw [this] at h
      obtain ⟨j, o, hj, r⟩ := cnt_rank h
      exact ⟨j, o, by omega, r⟩
    | some o =>
      rw [cnt_take_succ hn] at h
      by_cases hk : k < cnt τ (l.take n)
      · obtain ⟨j, o, hj, r⟩ := cnt_rank hk
        exact ⟨j, o, by omega, r⟩
      · cases hm : moves τ o with
        | false => rw [hm] at h; simp at h; omega
        | true => rw [hm] at h; simp at h; exact ⟨n, o, by omega, hn, hm, by omega⟩

theorem kind_le {τ : Tab} (o : Oper) : kindOf τ o ≤ 2 := by
  obtain ⟨dst, op, ty, pos, aft, g⟩ := o
  cases op with
  | call c =>
    obtain ⟨callee, args, argTypes⟩ := c
    cases callee with
    | builtin b => cases b <;> simp [kindOf]
    | _ => simp [kindOf]
  | convert s d y =>
    simp only [kindOf, qConv]
    split
    · split <;> simp
    · simp
  | _ => simp [kindOf]

theorem moves_kind {τ : Tab} {o : Oper} (hm : moves τ o = false) (hr : readsIt τ o = false) : kindOf τ o = 0 := by
  have h : kindOf τ o = 0 ∨ kindOf τ o = 1 ∨ kindOf τ o = 2 := by have := kind_le (τ := τ) o; omega
  rcases h with h | h | h
  · exact h
  · simp [readsIt, h] at hr
  · simp [moves, h] at hm

theorem D1_step {τ : Tab} {F : Fns} {all : List Oper} {ts : List (List A × A)} {hs : List (List Ob)} {t' : List A} {t : List A} {h : List Ob} (hr : runD τ F all all t h = some (ts, hs, t'))
    (hck : hs.length = 1 ∨ chkR τ F all (closGo all []) hs 0 all ts = true) {i : Nat} {o : Oper} (ho : all[i]? = some o) {k : Nat} (hk : k ≤ cnt τ all)
    (hmv : moves τ o = true → k = cnt τ (all.take i)) (hok : moves τ o = false → okAt τ (closGo all []) i k 0 0 all = true) :
    stepAt τ F all o (TT ts t' i) (HH hs k) = some (XX ts i, HH hs (k + if moves τ o then 1 else 0)) := by
  obtain ⟨h1, -, -, -, hlen, hl⟩ := runD_spec hr
  obtain ⟨hst, -⟩ := h1 i o ho
  rw [cnt_take_succ ho] at hst
  cases hm : moves τ o with
  | true => rw [hmv hm]; rw [hm] at hst; exact hst
  | false =>
    simp only [hm, Bool.false_eq_true, if_false, Nat.add_zero] at hst ⊢
    cases hrd : readsIt τ o with
    | false => exact quiet_step (moves_kind hm hrd) hst _
    | true =>
      rcases hck with h1 | hck
      · have : cnt τ all = 0 := by omega
        have e : cnt τ (all.take i) = 0 := Nat.le_zero.1 (this ▸ cnt_take_le')
        rw [e] at hst
        have : k = 0 := by omega
        rw [this]
        exact hst
      · obtain ⟨p, hp⟩ : ∃ p, ts[i]? = some p := ⟨_, List.getElem?_eq_getElem (by rw [hl]; exact (List.getElem?_eq_some_iff.1 ho).1)⟩
        have hc := chkR_spec hck i o p ho hp hrd
        have hkl : k < hs.length := by omega
        have := chkAt_spec hc k (HH hs k) (by unfold HH; rw [List.getD_eq_getElem?_getD, List.getElem?_eq_getElem hkl]; rfl) (by rw [Nat.zero_add, Nat.zero_add]; exact hok hm)
        simp only [TT, XX, hp]
        exact this

theorem D1_sound (hm : P.follows .mixedOrders = true) (hF : Sound P F) : DSound P (chkD (tab P)) (D1 (tab P) F) := by
  intro ops id hchk Q t0 h0 t1 h1 a0 I0 m0 w0 rel0 tr0 he hQ
  obtain ⟨ts, hs, t', hr, hck, hlast, htt⟩ : ∃ ts hs t', runD (tab P) F ops.toList ops.toList t0 h0 = some (ts, hs, t') ∧ (hs.length = 1 ∨ chkR (tab P) F ops.toList (closGo ops.toList []) hs 0 ops.toList ts = true) ∧ hs.getLast? = some h1 ∧ t' = t1 := by
    unfold D1 at he
    split at he
    · rename_i ts h' t' hr
      obtain ⟨rfl, rfl⟩ := St.mk.inj (Option.some.inj he)
      exact ⟨_, _, _, hr, .inl rfl, rfl, rfl⟩
    · rename_i ts hs t' _ hr
      split at he
      · rename_i hc
        split at he
        · rename_i h' hl
          obtain ⟨rfl, rfl⟩ := St.mk.inj (Option.some.inj he)
          exact ⟨_, _, _, hr, .inr hc, hl, rfl⟩
        · cases he
      · cases he
    · cases he
  subst htt
  generalize hall : ops.toList = all at *
  have hget : ∀ (i : Nat), ops[i]? = all[i]? := fun i => by rw [← hall, Array.getElem?_toList]
  have hsz : ops.size = all.length := by rw [← hall, Array.length_toList]
  obtain ⟨hstep, hT0, hTn, hH0, hlen, htl⟩ := runD_spec hr
  have hHn : HH hs (cnt (tab P) all) = h1 := by
    rw [List.getLast?_eq_getElem?, hlen, Nat.add_sub_cancel] at hlast
    unfold HH
    rw [List.getD_eq_getElem?_getD, hlast]
    rfl
  -- what was looked after once
  have hS := allI_spec hchk
  have hedge : ∀ (i : Nat) o, all[i]? = some o → ∀ e ∈ o.after.toList, Region.binds .any e = true → e.on < i := fun i o ho e he hb => by
    have := hS i o ho
    simp only [Bool.and_eq_true, List.all_eq_true, Nat.zero_add, Bool.or_eq_true, Bool.not_eq_true', decide_eq_true_eq] at this
    rcases this.1 e he with h | h
    · rw [hb] at h; cases h
    · exact h
  have htwo : ∀ (i j : Nat) o o', all[i]? = some o → all[j]? = some o' → chkTwo (tab P) all (closGo all []) i o j o' = true := fun i j o o' ho ho' => by
    have := hS i o ho
    simp only [Bool.and_eq_true, Nat.zero_add] at this
    have := allI_spec this.2 j o' ho'
    rwa [Nat.zero_add] at this
  have ap : Apart all := fun i j o o' d ho ho' hd hd' => by
    have := htwo i j o o' ho ho'
    unfold chkTwo at this
    rw [hd'] at this
    simp only [Bool.and_eq_true, Bool.or_eq_true, decide_eq_true_eq, hd] at this
    rcases this.1 with h | h
    · exact h
    · simp at h
  have hlook : ∀ (i j : Nat) o o' d, all[i]? = some o → all[j]? = some o' → o'.dst = some d → d ∈ looks all o → j ≠ i → (j < i → bef (closGo all []) j i = true) ∧ (i < j → bef (closGo all []) i j = true) := fun i j o o' d ho ho' hd hl hne => by
    have := htwo i j o o' ho ho'
    unfold chkTwo at this
    rw [hd] at this
    simp only [Bool.and_eq_true, Bool.or_eq_true, decide_eq_true_eq, Bool.not_eq_true', List.contains_eq_mem, decide_eq_false_iff_not] at this
    rcases this.1 with h | ⟨_, h⟩
    · exact absurd h.symm hne
    · rcases h with h | h
      · exact absurd hl h
      · exact ⟨fun hji => by rw [if_pos hji] at h; exact h, fun hij => by rw [if_neg (by omega)] at h; exact h⟩
  have hchain : ∀ (i j : Nat) o o', all[i]? = some o → all[j]? = some o' → i < j → moves (tab P) o = true → moves (tab P) o' = true → bef (closGo all []) i j = true := fun i j o o' ho ho' hij hmo hmo' => by
    have := htwo i j o o' ho ho'
    unfold chkTwo at this
    simp only [Bool.and_eq_true] at this
    have := this.2
    rw [if_pos hij, hmo, hmo'] at this
    simpa using this
  have hbef : ∀ (L : Nat → Prop), (∀ (i : Nat) o, all[i]? = some o → L i → Preds L o) → ∀ (i : Nat) o, all[i]? = some o → Preds L o → ∀ j, bef (closGo all []) j i = true → L j := fun L hL => closGo_spec hL (pre := []) (acc := []) rfl rfl (fun i o hi => by simp at hi)
  -- in the text's order
  have hagT : ∀ i, i ≤ all.length → Agrees all (XX ts) t0 (· < i) (TT ts t' i) := by
    intro i
    induction i with
    | zero => exact fun _ => ⟨by rw [hT0], fun j o d _ _ hj => absurd hj (Nat.not_lt_zero j), fun d _ => by rw [hT0]⟩
    | succ i ih =>
      intro hi
      obtain ⟨o, ho⟩ : ∃ o, all[i]? = some o := ⟨_, List.getElem?_eq_getElem (by omega)⟩
      rw [(hstep i o ho).2]
      exact (ih (by omega)).put ap ho (fun j => by omega)
  refine wp_region_any hm ?_
  have hpreds : ∀ (listed : Array Bool) (o : Oper), (∀ e ∈ o.after, Region.binds .any e = true → listed.getD e.on false = true) ↔ Preds (fun i => listed.getD i false = true) o := fun listed o => by
    unfold Preds
    simp only [Array.mem_toList_iff]
  have main : ∀ (fuel : Nat) (listed : Array Bool) (a : Act) (I : Imm) (m : List Loc) (w : World) (t : List A) (k : Nat), listed.size = all.length → listed.toList.countP (fun b => b) + fuel = all.length →
      (∀ (i : Nat) o, all[i]? = some o → listed.getD i false = true → Preds (fun i => listed.getD i false = true) o) → Agrees all (XX ts) t0 (fun i => listed.getD i false = true) t →
      (∀ (j : Nat) o, all[j]? = some o → moves (tab P) o = true → (listed.getD j false = true ↔ cnt (tab P) (all.take j) < k)) → k ≤ cnt (tab P) all →
      Step I0 m0 h0 w0 I m (HH hs k) w → TRel I m t a → wpAny P .any ops Q fuel listed a w := by
    intro fuel
    induction fuel with
    | zero =>
      intro listed a I m w t k hls hcn hdown hag hmk hkle st tr
      have hallt : ∀ i, i < all.length → listed.getD i false = true := fun i hi => by
        have : listed.toList.countP (fun b => b) = listed.toList.length := by rw [Array.length_toList, hls]; omega
        have := List.countP_eq_length.1 this (listed.getD i false) (by
          have hi' : i < listed.size := by omega
          simp [hi'])
        exact this
      have hrd : Region.ready .any ops listed = [] := by
        rw [List.eq_nil_iff_forall_not_mem]
        intro i hi
        rw [mem_ready] at hi
        obtain ⟨h0, o, ho, _⟩ := hi
        have hlt : i < all.length := by rw [← hsz]; exact (Array.getElem?_eq_some_iff.1 ho).1
        have h1 := hallt i hlt
        have hlt' : i < listed.size := by omega
        simp [hlt'] at h0 h1
        rw [h0] at h1
        cases h1
      have ht : t = t' := by
        rw [← hTn]
        refine List.ext_getElem? fun d => hag.same ap (hagT all.length (Nat.le_refl _)) fun j o hj _ => ?_
        have := (List.getElem?_eq_some_iff.1 hj).1
        exact ⟨fun _ => this, fun _ => hallt j this⟩
      have hk : k = cnt (tab P) all := by
        rcases Nat.lt_or_ge k (cnt (tab P) all) with h | h
        · obtain ⟨j, o, hj, ho, hmo, hc⟩ := cnt_rank (n := all.length) (by rw [List.take_length]; exact h)
          have := (hmk j o ho hmo).1 (hallt j hj)
          omega
        · omega
      subst ht hk
      rw [hHn] at st
      exact wpAny_done hrd (hQ I m a w st tr) 0
    | succ fuel ih =>
      intro listed a I m w t k hls hcn hdown hag hmk hkle st tr
      refine ⟨fun hrd => ?_, fun i hi => ?_⟩
      · exfalso
        have : ∀ n, ∀ i, i < n → i < all.length → listed.getD i false = true := by
          intro n
          induction n with
          | zero => intro i hi; omega
          | succ n ihn =>
            intro i hi hil
            obtain ⟨o, ho⟩ : ∃ o, all[i]? = some o := ⟨_, List.getElem?_eq_getElem hil⟩
            cases hli : listed.getD i false with
            | true => rfl
            | false =>
              exfalso
              have hm : i ∈ Region.ready .any ops listed := by
                rw [mem_ready]
                refine ⟨?_, o, by rw [hget]; exact ho, (hpreds listed o).2 fun e he hb => ?_⟩
                · have hlt' : i < listed.size := by omega
                  simp [hlt'] at hli ⊢
                  exact hli
                · have := hedge i o ho e he hb
                  exact ihn e.on (by omega) (by omega)
              rw [hrd] at hm
              cases hm
        have hc : listed.toList.countP (fun b => b) = listed.toList.length := by
          rw [List.countP_eq_length]
          intro b hb
          obtain ⟨i, hi, rfl⟩ := List.getElem_of_mem hb
          have hi' : i < listed.size := by simpa using hi
          have := this (i + 1) i (by omega) (by omega)
          simp [hi'] at this
          simpa using this
        rw [Array.length_toList, hls] at hc
        omega
      · rw [mem_ready] at hi
        obtain ⟨hil, o, ho, hpr⟩ := hi
        rw [hget] at ho
        have hil' : i < all.length := (List.getElem?_eq_some_iff.1 ho).1
        have hilf : listed.getD i false = false := by
          have hlt' : i < listed.size := by omega
          simp [hlt'] at hil ⊢
          exact hil
        have hPr := (hpreds listed o).1 hpr
        have hb := hbef (fun i => listed.getD i false = true) hdown i o ho hPr
        have hnb : ∀ (j : Nat) o', all[j]? = some o' → bef (closGo all []) i j = true → ¬ listed.getD j false = true := fun j o' hj hbj hlj => by
          have := hbef (fun i => listed.getD i false = true) hdown j o' hj (hdown j o' hj hlj) i hbj
          simp only [hilf] at this
          cases this
        -- what it meets
        have htt : ∀ d ∈ looks all o, t[d]? = (TT ts t' i)[d]? := fun d hd => by
          refine hag.same ap (hagT i (by omega)) fun j o' hj hdj => ?_
          rcases Nat.lt_trichotomy j i with h | h | h
          · exact ⟨fun _ => h, fun _ => hb j ((hlook i j o o' d ho hj hdj hd (by omega)).1 h)⟩
          · subst h
            exact ⟨fun hl => (by rw [hilf] at hl; cases hl), fun hl => (by omega)⟩
          · exact ⟨fun hl => absurd hl (hnb j o' hj ((hlook i j o o' d ho hj hdj hd (by omega)).2 h)), fun hl => by omega⟩
        have hmv : moves (tab P) o = true → k = cnt (tab P) (all.take i) := fun hmo => by
          have h1 := hmk i o ho hmo
          rw [hilf] at h1
          have h2 : k ≤ cnt (tab P) (all.take i) := by
            rcases Nat.lt_or_ge (cnt (tab P) (all.take i)) k with h | h
            · have := h1.2 h; cases this
            · exact h
          rcases Nat.lt_or_ge k (cnt (tab P) (all.take i)) with h | h
          · obtain ⟨j, o', hj, ho', hmo', hc⟩ := cnt_rank h
            have hlj := hb j (hchain j i o' o ho' ho hj hmo' hmo)
            have := (hmk j o' ho' hmo').1 hlj
            omega
          · omega
        have hok : moves (tab P) o = false → okAt (tab P) (closGo all []) i k 0 0 all = true := fun _ => okAt_of fun n o' hn hmn => by
          rw [Nat.zero_add, Nat.zero_add]
          refine ⟨fun hbn => (hmk n o' hn hmn).1 (hb n hbn), fun hbn => ?_⟩
          rcases Nat.lt_or_ge (cnt (tab P) (all.take n)) k with h | h
          · exact absurd ((hmk n o' hn hmn).2 h) (hnb n o' hn hbn)
          · exact h
        have hst := D1_step hr hck ho hkle hmv hok
        rw [← stepAt_congr htt] at hst
        -- what follows
        have next : ∀ (a' : Act) I' m' w', Step I0 m0 h0 w0 I' m' (HH hs (k + if moves (tab P) o then 1 else 0)) w' → TRel I' m' (putT t o.dst (XX ts i)) a' → wpAny P .any ops Q fuel (listed.setIfInBounds i true) a' w' := fun a' I' m' w' st' tr' => by
          have hL : ∀ j, (listed.setIfInBounds i true).getD j false = true ↔ listed.getD j false = true ∨ j = i := fun j => by
            by_cases hji : j = i
            · subst hji
              have hlt' : j < listed.size := by omega
              simp [hlt']
            · rw [getD_set_ne false (fun e => hji e.symm)]
              simp [hji]
          have hmk' : ∀ (j : Nat) o', all[j]? = some o' → moves (tab P) o' = true → ((listed.setIfInBounds i true).getD j false = true ↔ cnt (tab P) (all.take j) < k + if moves (tab P) o then 1 else 0) := fun j o' hj hmo' => by
            rw [hL, hmk j o' hj hmo']
            cases hmo : moves (tab P) o with
            | false =>
              simp only [Bool.false_eq_true, if_false, Nat.add_zero]
              refine ⟨fun h => h.elim (fun h => h) fun e => ?_, .inl⟩
              subst e
              rw [ho] at hj
              obtain rfl := Option.some.inj hj
              rw [hmo] at hmo'
              cases hmo'
            | true =>
              simp only [if_true]
              have hki := hmv hmo
              rcases Nat.lt_trichotomy j i with h | h | h
              · have : cnt (tab P) (all.take (j + 1)) ≤ cnt (tab P) (all.take i) := cnt_take_le h
                rw [cnt_take_succ hj, hmo'] at this
                simp only [if_true] at this
                exact ⟨fun _ => by omega, fun _ => .inl (by omega)⟩
              · subst h; exact ⟨fun _ => by omega, fun _ => .inr rfl⟩
              · have : cnt (tab P) (all.take (i + 1)) ≤ cnt (tab P) (all.take j) := cnt_take_le h
                rw [cnt_take_succ ho, hmo] at this
                simp only [if_true] at this
                exact ⟨fun h => by omega, fun h => by omega⟩
          refine ih (listed.setIfInBounds i true) a' I' m' w' (putT t o.dst (XX ts i)) _ (by simp [hls]) ?_ ?_ (hag.put ap ho hL) hmk' ?_ st' tr'
          · rw [Array.toList_setIfInBounds, List.countP_set (by rw [Array.length_toList]; omega)]
            have hlt' : i < listed.size := by omega
            have e : listed.toList[i]'(by simpa using hlt') = false := by
              simp [hlt'] at hilf
              simpa using hilf
            simp only [e, Bool.false_eq_true, if_false, if_true]
            omega
          · intro j o' hj hlj e he hbe
            rw [hL] at hlj
            refine (hL e.on).2 (.inl ?_)
            rcases hlj with h | h
            · exact hdown j o' hj h e he hbe
            · subst h
              rw [ho] at hj
              obtain rfl := Option.some.inj hj
              exact hPr e he hbe
          · cases hmo : moves (tab P) o with
            | false => simpa using hkle
            | true =>
              have hki := hmv hmo
              simp only [if_true]
              have : cnt (tab P) (all.take (i + 1)) ≤ cnt (tab P) all := cnt_take_le'
              rw [cnt_take_succ ho, hmo] at this
              simp only [if_true] at this
              omega
        unfold wpOp
        rw [hget, ho]
        dsimp only
        unfold stepAt at hst
        split at hst
        · rename_i hw
          rw [← hall] at hw
          rw [wanted_sound tr hw, if_pos rfl]
          exact .inl (sound_op hF st.rel tr hst fun I1 m1 y w1 hs1 hv => next _ _ _ _ (st.trans hs1) ((tr.mono hs1.ile hs1.mle).put o.dst hv))
        · rename_i hw
          rw [← hall] at hw
          rw [wanted_sound tr hw, if_neg (by decide)]
          obtain ⟨e1, e2⟩ := Prod.mk.inj (Option.some.inj hst)
          refine next _ _ _ _ (by rw [← e2]; exact st) ?_
          rw [← e1]
          exact tr.put o.dst (.flat (.v _))
        · cases hst
  have hrep : ∀ i, (Array.replicate ops.size false).getD i false = false := fun i => by
    rw [Array.getD_eq_getD_getElem?, Array.getElem?_replicate]
    split <;> rfl
  refine main ops.size (Array.replicate ops.size false) a0 I0 m0 _ t0 0 (by simp [hsz]) ?_ (fun i o _ h => by rw [hrep] at h; cases h) ⟨rfl, fun j o d _ _ h => (by rw [hrep] at h; cases h), fun d _ => rfl⟩
    (fun j o _ _ => ⟨fun h => (by rw [hrep] at h; cases h), fun h => (by omega)⟩) (Nat.zero_le _) ?_ tr0
  · rw [Array.toList_replicate, List.countP_replicate]; simp [hsz]
  · rw [hH0]; exact Step.drew rel0

end
end Go.Flat
