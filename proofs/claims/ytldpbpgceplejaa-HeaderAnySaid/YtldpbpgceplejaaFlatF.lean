/-
  What the interpreter answers to an operation is what the model's operation comes to: are two alike; a value put together.
-/
import Derived.Test.YtldpbpgceplejaaFlatE
import Derived.Laws.StructEq
import Derived.ChangeKeysEq
namespace Go.Flat

section
variable {P : Program} {I : Imm} {m : List Loc} {h : List Ob} {w : World}

theorem cellsOf_eq {t : TypeId} {i : TypeInfo} (h : P.info? t = some i) : P.cellsOf t = i.size := by simp [Program.cellsOf, h]

theorem sound_part {t : TypeId} {xs : List A} {ys : List Value} {off : Nat} {x : A} (hr : Rels I m xs ys) (he : partA (tab P) t xs off = some x) : ∃ z, (part t ys.toArray off).run P w = .ok z w ∧ VRel I m x z := by
  unfold partA at he
  split at he
  · rename_i i hi
    obtain ⟨info, d, z, h1, h2, h3, h4, h5, h6, h7⟩ := tab_some hi
    split at he
    · rename_i hl
      exact part_sound h1 h2 h4 (by rw [h7]) hr hl he
    · cases he
  · cases he

theorem sound_eqT : ∀ (n d : Nat) {t : TypeId} {x y : A} {u v : Value} {b : Bool}, n ≤ d → VRel I m x u → VRel I m y v → evEqT (tab P) n t x y = some b → (Op.equalIn d t u v).run P w = .ok b w := by
  intro n
  induction n with
  | zero => intro d t x y u v b _ _ _ he; simp [evEqT] at he
  | succ n ih =>
    intro d t x y u v b hd hu hv he
    obtain ⟨d, rfl⟩ : ∃ k, d = k + 1 := ⟨d - 1, by omega⟩
    unfold evEqT at he
    split at he
    · cases he
    · rename_i i hi
      obtain ⟨info, dd, z, h1, h2, h3, h4, h5, h6, h7, h8⟩ := tab_some' hi
      split at he
      · rename_i heqs
        split at he
        · rename_i k0 k a k' c hd1
          obtain rfl := v_sound hu
          obtain rfl := v_sound hv
          obtain rfl := D.of_int (hd1.symm.trans h7)
          split at he
          · rename_i hk
            subst hk
            obtain rfl := Option.some.inj he
            exact run_equalIn_int w d t _ _ _ _ h2
          · cases he
        · rename_i a c hd1
          obtain rfl := v_sound hu
          obtain rfl := v_sound hv
          obtain rfl := D.of_bool (hd1.symm.trans h7)
          obtain rfl := Option.some.inj he
          exact run_equalIn_bool' w d t _ _ h2
        · rename_i a c hd1
          obtain rfl := v_sound hu
          obtain rfl := v_sound hv
          obtain rfl := D.of_string (hd1.symm.trans h7)
          obtain rfl := Option.some.inj he
          exact run_equalIn_string w d t _ _ h2
        · rename_i fs xs ys hd1
          obtain ⟨us, rfl, hus⟩ := agg_sound hu
          obtain ⟨vs, rfl, hvs⟩ := agg_sound hv
          obtain ⟨fa, rfl, hfs⟩ := D.of_struct (hd1.symm.trans h7)
          have hfo : P.fieldsOf t = fa := by simp [Program.fieldsOf, h2]
          have hp : P.stoodInHeld t = false ∧ ∀ f ∈ fa.toList, f.name ≠ "_" := by
            rw [h8] at heqs
            simp only [partsEq, h2, Bool.and_eq_true, Bool.not_eq_true', List.all_eq_true, bne_iff_ne] at heqs
            exact heqs.2
          rw [run_equalIn_struct w d t _ _ (by rw [hfo]; exact h2) hp.1, hfo]
          have : ∀ (l : List Field) (b : Bool), (∀ f ∈ l, f.name ≠ "_") → eqParts (evEqT (tab P) n) (tab P) xs ys (l.map fun f => (f.offset, f.type)) = some b → (Op.eqFields d us.toArray vs.toArray l).run P w = .ok b w := by
            intro l
            induction l with
            | nil => intro b _ he; simp only [List.map_nil, eqParts, Option.some.injEq] at he; subst he; rfl
            | cons f l ihl =>
              intro b hn he
              simp only [List.map_cons, eqParts] at he
              split at he
              · rename_i a c ha hc
                obtain ⟨za, hza, va⟩ := sound_part (w := w) hus ha
                obtain ⟨zc, hzc, vc⟩ := sound_part (w := w) hvs hc
                have hname := hn f (List.mem_cons_self ..)
                split at he
                · rename_i hq
                  have := ih d (by omega) va vc hq
                  simp only [Op.eqFields, if_pos hname, Sem.run_bind, hza, hzc, this, Result.andThen_ok, Bool.not_true, Bool.false_eq_true, if_false]
                  exact ihl b (fun f hf => hn f (List.mem_cons_of_mem _ hf)) he
                · rename_i hq
                  have := ih d (by omega) va vc hq
                  obtain rfl := Option.some.inj he
                  simp only [Op.eqFields, if_pos hname, Sem.run_bind, hza, hzc, this, Result.andThen_ok, Bool.not_false, if_true]
                  rfl
                · cases he
              · cases he
          exact this _ _ hp.2 (hfs ▸ he)
        · rename_i len e xs ys hd1
          obtain ⟨us, rfl, hus⟩ := agg_sound hu
          obtain ⟨vs, rfl, hvs⟩ := agg_sound hv
          obtain rfl := D.of_array (hd1.symm.trans h7)
          split at he
          · rename_i ei hei
            obtain ⟨info', d', z', k1, k2, k3, k4, k5, k6, k7⟩ := tab_some hei
            rw [run_equalIn_array w d _ _ h2 k1, cellsOf_eq k1, ← k4]
            have : ∀ (l : List Nat) (b : Bool), eqParts (evEqT (tab P) n) (tab P) xs ys (l.map fun i => (i * ei.size, e)) = some b → (Op.eqItems d e ei.size us.toArray vs.toArray l).run P w = .ok b w := by
              intro l
              induction l with
              | nil => intro b he; simp only [List.map_nil, eqParts, Option.some.injEq] at he; subst he; rfl
              | cons f l ihl =>
                intro b he
                simp only [List.map_cons, eqParts] at he
                split at he
                · rename_i a c ha hc
                  obtain ⟨za, hza, va⟩ := sound_part (w := w) hus ha
                  obtain ⟨zc, hzc, vc⟩ := sound_part (w := w) hvs hc
                  split at he
                  · rename_i hq
                    have := ih d (by omega) va vc hq
                    simp only [Op.eqItems, Sem.run_bind, hza, hzc, this, Result.andThen_ok, Bool.not_true, Bool.false_eq_true, if_false]
                    exact ihl b he
                  · rename_i hq
                    have := ih d (by omega) va vc hq
                    obtain rfl := Option.some.inj he
                    simp only [Op.eqItems, Sem.run_bind, hza, hzc, this, Result.andThen_ok, Bool.not_false, if_true]
                    rfl
                  · cases he
                · cases he
            exact this _ _ he
          · cases he
        · cases he
      · cases he

theorem run_nil_pointer (d : Nat) (t e : TypeId) (p : Option Addr) (h : P.underlying t = some (.pointer e)) : (Op.equalIn (d + 1) t (.pointer none) (.pointer p)).run P w = .ok p.isNone w := by
  cases p <;> simp [Op.equalIn, run_underlying h]
theorem run_pointer_nil (d : Nat) (t e : TypeId) (a : Addr) (h : P.underlying t = some (.pointer e)) : (Op.equalIn (d + 1) t (.pointer (some a)) (.pointer none)).run P w = .ok false w := by
  simp [Op.equalIn, run_underlying h]
theorem run_nil_slice (d : Nat) (t e : TypeId) (p : Option Addr) (n c n' c' : Nat) (h : P.underlying t = some (.slice e)) : (Op.equalIn (d + 1) t (.slice none n c) (.slice p n' c')).run P w = .ok p.isNone w := by
  cases p <;> simp [Op.equalIn, run_underlying h]
theorem run_slice_nil (d : Nat) (t e : TypeId) (a : Addr) (n c n' c' : Nat) (h : P.underlying t = some (.slice e)) : (Op.equalIn (d + 1) t (.slice (some a) n c) (.slice none n' c')).run P w = .ok false w := by
  simp [Op.equalIn, run_underlying h]
theorem run_nil_map (d : Nat) (t k e : TypeId) (p : Option Nat) (h : P.underlying t = some (.map k e)) : (Op.equalIn (d + 1) t (.map none) (.map p)).run P w = .ok p.isNone w := by
  cases p <;> simp [Op.equalIn, run_underlying h]
theorem run_map_nil (d : Nat) (t k e : TypeId) (a : Nat) (h : P.underlying t = some (.map k e)) : (Op.equalIn (d + 1) t (.map (some a)) (.map none)).run P w = .ok false w := by
  simp [Op.equalIn, run_underlying h]

theorem ptr_val {i off : Nat} {y : Value} (h : VRel I m (.ptr i off) y) : ∃ a, y = .pointer (some a) := by cases h with | flat hf => cases hf | ptr => exact ⟨_, rfl⟩
theorem fp_val {cs : List A} {y : Value} (h : VRel I m (.fp cs) y) : ∃ a, y = .pointer (some a) := by cases h with | flat hf => cases hf; exact ⟨_, rfl⟩
theorem sl_val {i off n sz : Nat} {y : Value} (h : VRel I m (.sl i off n sz) y) : ∃ a c, y = .slice (some a) n c := by cases h with | flat hf => cases hf | sl => exact ⟨_, _, rfl⟩ | sl0 => exact ⟨_, _, rfl⟩
theorem lst_val {n : Nat} {cs : List A} {y : Value} (hn : ¬ n = 0) (h : VRel I m (.lst n cs) y) : ∃ a c, y = .slice (some a) n c := by cases h with | flat hf => cases hf <;> first | exact ⟨_, _, rfl⟩ | exact absurd rfl hn
theorem mp_val {i : Nat} {y : Value} (h : VRel I m (.mp i) y) : ∃ a, y = .map (some a) := by cases h with | flat hf => cases hf | mp => exact ⟨_, rfl⟩

theorem sound_eq {t : TypeId} {x y : A} {u v : Value} {b : Bool} (hu : VRel I m x u) (hv : VRel I m y v) (he : evEq (tab P) t x y = some b) :
    (Op.equal t u v).run P w = .ok b w ∧ (plainV u = true ∨ (P.eqGuardType P.depth t = false ∧ ∃ us vs, u = .agg us ∧ v = .agg vs)) ∧ (binOp .eql t u v = (do pure (.bool (← Op.equal t u v))) ∧ binOp .neq t u v = (do pure (.bool (!(← Op.equal t u v))))) := by
  unfold evEq at he
  split at he
  · cases he
  · rename_i i hi
    obtain ⟨info, dd, z, h1, h2, h3, h4, h5, h6, h7, h8⟩ := tab_some' hi
    split at he
    · rename_i e hd1
      obtain rfl := v_sound hu; obtain rfl := v_sound hv; obtain rfl := D.of_pointer (hd1.symm.trans h7); obtain rfl := Option.some.inj he
      exact ⟨run_nil_pointer 9999 t e none h2, .inl rfl, ⟨rfl, rfl⟩⟩
    · rename_i e i' off hd1
      obtain rfl := v_sound hu; obtain ⟨a, rfl⟩ := ptr_val hv; obtain rfl := D.of_pointer (hd1.symm.trans h7); obtain rfl := Option.some.inj he
      exact ⟨run_nil_pointer 9999 t e _ h2, .inl rfl, ⟨rfl, rfl⟩⟩
    · rename_i e cs hd1
      obtain rfl := v_sound hu; obtain ⟨a, rfl⟩ := fp_val hv; obtain rfl := D.of_pointer (hd1.symm.trans h7); obtain rfl := Option.some.inj he
      exact ⟨run_nil_pointer 9999 t e _ h2, .inl rfl, ⟨rfl, rfl⟩⟩
    · rename_i e i' off hd1
      obtain ⟨a, rfl⟩ := ptr_val hu; obtain rfl := v_sound hv; obtain rfl := D.of_pointer (hd1.symm.trans h7); obtain rfl := Option.some.inj he
      exact ⟨run_pointer_nil 9999 t e _ h2, .inl rfl, ⟨rfl, rfl⟩⟩
    · rename_i e cs hd1
      obtain ⟨a, rfl⟩ := fp_val hu; obtain rfl := v_sound hv; obtain rfl := D.of_pointer (hd1.symm.trans h7); obtain rfl := Option.some.inj he
      exact ⟨run_pointer_nil 9999 t e _ h2, .inl rfl, ⟨rfl, rfl⟩⟩
    · rename_i e hd1
      obtain rfl := v_sound hu; obtain rfl := v_sound hv; obtain rfl := D.of_slice (hd1.symm.trans h7); obtain rfl := Option.some.inj he
      exact ⟨run_nil_slice 9999 t e none _ _ _ _ h2, .inl rfl, ⟨rfl, rfl⟩⟩
    · rename_i e _ _ _ _ hd1
      obtain rfl := v_sound hu; obtain ⟨a, c, rfl⟩ := sl_val hv; obtain rfl := D.of_slice (hd1.symm.trans h7); obtain rfl := Option.some.inj he
      exact ⟨run_nil_slice 9999 t e _ _ _ _ _ h2, .inl rfl, ⟨rfl, rfl⟩⟩
    · rename_i e _ _ _ _ hd1
      obtain ⟨a, c, rfl⟩ := sl_val hu; obtain rfl := v_sound hv; obtain rfl := D.of_slice (hd1.symm.trans h7); obtain rfl := Option.some.inj he
      exact ⟨run_slice_nil 9999 t e _ _ _ _ _ h2, .inl rfl, ⟨rfl, rfl⟩⟩
    · rename_i e _ _ hd1
      split at he
      · cases he
      · rename_i hn
        obtain rfl := v_sound hu; obtain ⟨a, c, rfl⟩ := lst_val hn hv; obtain rfl := D.of_slice (hd1.symm.trans h7); obtain rfl := Option.some.inj he
        exact ⟨run_nil_slice 9999 t e _ _ _ _ _ h2, .inl rfl, ⟨rfl, rfl⟩⟩
    · rename_i e _ _ hd1
      split at he
      · cases he
      · rename_i hn
        obtain ⟨a, c, rfl⟩ := lst_val hn hu; obtain rfl := v_sound hv; obtain rfl := D.of_slice (hd1.symm.trans h7); obtain rfl := Option.some.inj he
        exact ⟨run_slice_nil 9999 t e _ _ _ _ _ h2, .inl rfl, ⟨rfl, rfl⟩⟩
    · rename_i k e hd1
      obtain rfl := v_sound hu; obtain rfl := v_sound hv; obtain rfl := D.of_map (hd1.symm.trans h7); obtain rfl := Option.some.inj he
      exact ⟨run_nil_map 9999 t k e none h2, .inl rfl, ⟨rfl, rfl⟩⟩
    · rename_i k e _ hd1
      obtain rfl := v_sound hu; obtain ⟨a, rfl⟩ := mp_val hv; obtain rfl := D.of_map (hd1.symm.trans h7); obtain rfl := Option.some.inj he
      exact ⟨run_nil_map 9999 t k e _ h2, .inl rfl, ⟨rfl, rfl⟩⟩
    · rename_i k e _ hd1
      obtain ⟨a, rfl⟩ := mp_val hu; obtain rfl := v_sound hv; obtain rfl := D.of_map (hd1.symm.trans h7); obtain rfl := Option.some.inj he
      exact ⟨run_map_nil 9999 t k e _ h2, .inl rfl, ⟨rfl, rfl⟩⟩
    · rename_i a c hd1
      obtain rfl := v_sound hu; obtain rfl := v_sound hv; obtain rfl := D.of_bool (hd1.symm.trans h7); obtain rfl := Option.some.inj he
      exact ⟨run_equal_bool w t _ _ h2, .inl rfl, ⟨rfl, rfl⟩⟩
    · rename_i fs xs ys hd1
      obtain ⟨us, rfl, _⟩ := agg_sound hu; obtain ⟨vs, rfl, _⟩ := agg_sound hv
      have hg : P.eqGuardType P.depth t = false := by
        unfold evEqT at he
        rw [hi] at he
        simp only at he
        split at he
        · rename_i heqs
          rw [h8] at heqs
          simp only [partsEq, Bool.and_eq_true, Bool.not_eq_true'] at heqs
          exact heqs.1
        · cases he
      exact ⟨sound_eqT 10 10000 (by omega) hu hv he, .inr ⟨hg, _, _, rfl, rfl⟩, ⟨rfl, rfl⟩⟩
    · rename_i n e xs ys hd1
      obtain ⟨us, rfl, _⟩ := agg_sound hu; obtain ⟨vs, rfl, _⟩ := agg_sound hv
      have hg : P.eqGuardType P.depth t = false := by
        unfold evEqT at he
        rw [hi] at he
        simp only at he
        split at he
        · rename_i heqs
          rw [h8] at heqs
          simp only [partsEq, Bool.and_eq_true, Bool.not_eq_true'] at heqs
          exact heqs.1
        · cases he
      exact ⟨sound_eqT 10 10000 (by omega) hu hv he, .inr ⟨hg, _, _, rfl, rfl⟩, ⟨rfl, rfl⟩⟩
    · cases he

theorem sound_eqOp {op : BinOp} {t : TypeId} {a b z : A} {y u : Value} (ha : VRel I m a y) (hb : VRel I m b u) (ox oy : Operand) (he : evEqOp (tab P) op t a b = some z) :
    ∃ q, (do eqGuard op t ox oy y u; binOp op t y u : Sem Value).run P w = .ok q w ∧ VRel I m z q := by
  unfold evEqOp at he
  split at he
  · cases hq : evEq (tab P) t a b with
    | none => simp [hq] at he
    | some c =>
      simp only [hq, Option.map_some, Option.some.injEq] at he
      subst he
      obtain ⟨h1, h2, h3⟩ := sound_eq (w := w) ha hb hq
      refine ⟨.bool c, ?_, .flat (.v _)⟩
      have hg : (eqGuard .eql t ox oy y u).run P w = .ok () w := by
        rcases h2 with h2 | ⟨hg, us, vs, rfl, rfl⟩
        · exact run_eqGuard_plain _ _ _ _ _ _ h2
        · exact run_eqGuard_agg w _ _ _ _ _ _ hg
      rw [h3.1]
      simp only [Sem.run_bind, hg, Result.andThen_ok, h1, Sem.run_pure]
  · cases hq : evEq (tab P) t a b with
    | none => simp [hq] at he
    | some c =>
      simp only [hq, Option.map_some, Option.some.injEq] at he
      subst he
      obtain ⟨h1, h2, h3⟩ := sound_eq (w := w) ha hb hq
      refine ⟨.bool !c, ?_, .flat (.v _)⟩
      have hg : (eqGuard .neq t ox oy y u).run P w = .ok () w := by
        rcases h2 with h2 | ⟨hg, us, vs, rfl, rfl⟩
        · exact run_eqGuard_plain _ _ _ _ _ _ h2
        · exact run_eqGuard_agg w _ _ _ _ _ _ hg
      rw [h3.2]
      simp only [Sem.run_bind, hg, Result.andThen_ok, h1, Sem.run_pure]
  · cases he

end
end Go.Flat
