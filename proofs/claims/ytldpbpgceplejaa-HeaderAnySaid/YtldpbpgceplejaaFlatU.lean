/-
  The places of a function as a list of what was put where: to be gone through by simp more quickly.
-/
import Derived.Test.YtldpbpgceplejaaFlatQ
namespace Go.Flat
set_option linter.unusedSimpArgs false
set_option linter.unusedVariables false

def look (z : A) : List (Nat × A) → Nat → A
  | [], _ => z
  | (i, x) :: l, j => if i = j then x else look z l j
/-- n places; what was put last stands first. -/
def plc (n : Nat) (z : A) (l : List (Nat × A)) : List A := (List.range n).map (look z l)
def enumA : Nat → List A → List (Nat × A)
  | _, [] => []
  | k, x :: xs => (k, x) :: enumA (k + 1) xs

@[simp] theorem look_nil (z : A) (j : Nat) : look z [] j = z := rfl
@[simp] theorem look_hit (z x : A) (l : List (Nat × A)) (i : Nat) : look z ((i, x) :: l) i = x := by simp [look]
@[simp] theorem look_miss (z x : A) (l : List (Nat × A)) {i j : Nat} (h : i ≠ j) : look z ((i, x) :: l) j = look z l j := by simp [look, h]

@[simp] theorem plc_length (n : Nat) (z : A) (l : List (Nat × A)) : (plc n z l).length = n := by simp [plc]
theorem plc_get (n : Nat) (z : A) (l : List (Nat × A)) (j : Nat) : (plc n z l)[j]? = if j < n then some (look z l j) else none := by
  unfold plc
  rw [List.getElem?_map]
  by_cases h : j < n
  · rw [if_pos h, List.getElem?_range h]; rfl
  · rw [if_neg h, List.getElem?_eq_none (by simp; omega)]; rfl
@[simp] theorem plc_get_lt {n : Nat} {z : A} {l : List (Nat × A)} {j : Nat} (h : j < n) : (plc n z l)[j]? = some (look z l j) := by rw [plc_get, if_pos h]
@[simp] theorem plc_getElem (n : Nat) (z : A) (l : List (Nat × A)) (j : Nat) (h : j < (plc n z l).length) : (plc n z l)[j] = look z l j := by simp [plc]
@[simp] theorem plc_getD_lt {n : Nat} {z d : A} {l : List (Nat × A)} {j : Nat} (h : j < n) : (plc n z l).getD j d = look z l j := by rw [List.getD_eq_getElem?_getD, plc_get_lt h]; rfl
@[simp] theorem plc_set (n : Nat) (z : A) (l : List (Nat × A)) (d : Nat) (x : A) : (plc n z l).set d x = plc n z ((d, x) :: l) := by
  apply List.ext_getElem?
  intro j
  rw [List.getElem?_set, plc_get, plc_get, plc_length]
  by_cases hd : d = j
  · subst hd
    by_cases h : d < n <;> simp [h, look]
  · by_cases h : j < n <;> simp [h, look, hd]

theorem enum_get : ∀ (xs : List A) (k : Nat) (z : A) (j : Nat), look z (enumA k xs) (k + j) = (xs[j]?).getD z
  | [], k, z, j => rfl
  | x :: xs, k, z, 0 => by simp [enumA, look]
  | x :: xs, k, z, j + 1 => by
    simp only [enumA, look]
    rw [if_neg (by omega), show k + (j + 1) = k + 1 + j by omega, enum_get xs (k + 1) z j]
    rfl
theorem frame_plc (fn : Func) (args : List A) (h : args.length ≤ fn.ntmps) : frame fn args = plc fn.ntmps (.v undef) (enumA 0 args) := by
  apply List.ext_getElem?
  intro j
  rw [plc_get]
  unfold frame
  have he := enum_get args 0 (.v undef) j
  rw [Nat.zero_add] at he
  rw [he]
  by_cases hj : j < args.length
  · rw [List.getElem?_append_left hj, if_pos (by omega), List.getElem?_eq_getElem hj]; rfl
  · rw [List.getElem?_append_right (by omega), List.getElem?_replicate]
    by_cases h2 : j < fn.ntmps
    · rw [if_pos (by omega), if_pos h2, List.getElem?_eq_none (by omega)]; rfl
    · rw [if_neg (by omega), if_neg h2]

theorem ev_bodyT {τ : Tab} {F : Fns} {D : List Oper → St → Option St} {K : Nat → List Nat} {n : Nat} (fn : Func) (c : Code) (args : List A) (h : List Ob) (hl : args.length ≤ fn.ntmps) :
    evBody τ F D K n fn c args h = bodyK τ fn.results.toList h.length (evCode τ F D h.length K n c ⟨plc fn.ntmps (.v undef) (enumA 0 args), h⟩) := by
  rw [ev_body, frame_plc fn args hl]

/-! ### what is kept at a loop's head -/
def okKeys : List Nat → Nat → Nat → Bool
  | [], _, _ => true
  | k :: ks, lo, n => decide (lo ≤ k) && decide (k < n) && okKeys ks (k + 1) n
def renP (sel : List Nat) : List (Nat × A) → Option (List (Nat × A))
  | [] => some []
  | (i, x) :: l => match renA sel x with | some y => (match renP sel l with | some l' => some ((i, y) :: l') | none => none) | none => none
def idsP : List (Nat × A) → List Nat
  | [] => []
  | (_, x) :: l => idsA x ++ idsP l
/-- As gc, for places put so. -/
def gcT (np n : Nat) (l : List (Nat × A)) (h : List Ob) : Option St :=
  if h.length = np then some ⟨plc n .any l, h⟩ else
  let sel := reach h 400 (((h.take np).flatMap idsOb) ++ idsP l) (List.range np)
  if nodupB sel && sel.take np == List.range np then
    match renP sel l, renH sel h sel with
    | some l', some h' => some ⟨plc n .any l', h'⟩
    | _, _ => none
  else none

def plcFrom (lo n : Nat) (l : List (Nat × A)) : List A := (List.range' lo (n - lo)).map (look .any l)
theorem plc_from (n : Nat) (l : List (Nat × A)) : plc n .any l = plcFrom 0 n l := by simp [plc, plcFrom, List.range_eq_range']
theorem okKeys_ge : ∀ {ks : List Nat} {lo n : Nat}, okKeys ks lo n = true → ∀ k ∈ ks, lo ≤ k
  | [], _, _, _, k, h => by cases h
  | a :: ks, lo, n, h, k, hk => by
    simp only [okKeys, Bool.and_eq_true, decide_eq_true_eq] at h
    rcases List.mem_cons.1 hk with rfl | hk
    · exact h.1.1
    · have := okKeys_ge h.2 k hk; omega
theorem look_none : ∀ {l : List (Nat × A)} {j : Nat}, (∀ k ∈ l.map (·.1), k ≠ j) → look .any l j = .any
  | [], _, _ => rfl
  | (i, x) :: l, j, h => by
    rw [look_miss _ _ _ (h i (by simp))]
    exact look_none fun k hk => h k (by simp at hk ⊢; exact .inr hk)
theorem plcFrom_step {lo n : Nat} (l : List (Nat × A)) (h : lo < n) : plcFrom lo n l = look .any l lo :: plcFrom (lo + 1) n l := by
  unfold plcFrom
  rw [show n - lo = (n - (lo + 1)) + 1 by omega, List.range'_succ]
  rfl
theorem plcFrom_end {lo n : Nat} (l : List (Nat × A)) (h : n ≤ lo) : plcFrom lo n l = [] := by
  unfold plcFrom
  rw [show n - lo = 0 by omega]
  rfl
theorem plcFrom_drop {lo n i : Nat} {x : A} {l : List (Nat × A)} (h : i < lo) : plcFrom lo n ((i, x) :: l) = plcFrom lo n l := by
  unfold plcFrom
  refine List.map_congr_left fun j hj => ?_
  have := (List.mem_range'_1.1 hj).1
  rw [look_miss _ _ _ (by omega)]

theorem ids_from (n : Nat) : ∀ (d lo : Nat) (l : List (Nat × A)), d = n - lo → okKeys (l.map (·.1)) lo n = true → idsL (plcFrom lo n l) = idsP l
  | 0, lo, l, hd, hk => by
    rw [plcFrom_end l (by omega)]
    cases l with
    | nil => rfl
    | cons p l =>
      obtain ⟨i, x⟩ := p
      simp only [List.map_cons, okKeys, Bool.and_eq_true, decide_eq_true_eq] at hk
      omega
  | d + 1, lo, l, hd, hk => by
    rw [plcFrom_step l (by omega)]
    cases l with
    | nil =>
      have := ids_from n d (lo + 1) [] (by omega) rfl
      simp only [look_nil, idsL, this]
      rfl
    | cons p l =>
      obtain ⟨i, x⟩ := p
      simp only [List.map_cons, okKeys, Bool.and_eq_true, decide_eq_true_eq] at hk
      obtain ⟨⟨h1, h2⟩, h3⟩ := hk
      by_cases hi : i = lo
      · subst hi
        rw [look_hit, plcFrom_drop (by omega)]
        simp only [idsL, idsP, ids_from n d (i + 1) l (by omega) h3]
      · have hk' : okKeys (((i, x) :: l).map (·.1)) (lo + 1) n = true := by
          simp only [List.map_cons, okKeys, Bool.and_eq_true, decide_eq_true_eq]
          exact ⟨⟨by omega, h2⟩, h3⟩
        have hn : look .any ((i, x) :: l) lo = .any := by
          refine look_none fun k hk => ?_
          have := okKeys_ge hk' k hk
          omega
        rw [hn]
        have := ids_from n d (lo + 1) ((i, x) :: l) (by omega) hk'
        simp only [idsL, this]
        rfl
theorem ren_from (sel : List Nat) (n : Nat) : ∀ (d lo : Nat) (l : List (Nat × A)), d = n - lo → okKeys (l.map (·.1)) lo n = true → renL sel (plcFrom lo n l) = (renP sel l).map (plcFrom lo n)
  | 0, lo, l, hd, hk => by
    cases l with
    | nil => rw [plcFrom_end _ (by omega)]; simp [renP, renL, plcFrom_end (lo := lo) (n := n) [] (by omega)]
    | cons p l =>
      obtain ⟨i, x⟩ := p
      simp only [List.map_cons, okKeys, Bool.and_eq_true, decide_eq_true_eq] at hk
      omega
  | d + 1, lo, l, hd, hk => by
    rw [plcFrom_step l (by omega)]
    cases l with
    | nil =>
      have := ren_from sel n d (lo + 1) [] (by omega) rfl
      simp only [look_nil, renL, renA, this, renP, Option.map_some]
      rw [plcFrom_step (lo := lo) (n := n) [] (by omega)]
      rfl
    | cons p l =>
      obtain ⟨i, x⟩ := p
      simp only [List.map_cons, okKeys, Bool.and_eq_true, decide_eq_true_eq] at hk
      obtain ⟨⟨h1, h2⟩, h3⟩ := hk
      by_cases hi : i = lo
      · subst hi
        rw [look_hit, plcFrom_drop (by omega)]
        simp only [renL, renP, ren_from sel n d (i + 1) l (by omega) h3]
        cases renA sel x with
        | none => rfl
        | some y =>
          cases renP sel l with
          | none => rfl
          | some l' =>
            simp only [Option.map_some]
            rw [plcFrom_step (lo := i) (n := n) ((i, y) :: l') (by omega), look_hit, plcFrom_drop (by omega)]
      · have hk' : okKeys (((i, x) :: l).map (·.1)) (lo + 1) n = true := by
          simp only [List.map_cons, okKeys, Bool.and_eq_true, decide_eq_true_eq]
          exact ⟨⟨by omega, h2⟩, h3⟩
        have keys : ∀ {l1 l2 : List (Nat × A)}, renP sel l1 = some l2 → l2.map (·.1) = l1.map (·.1) := by
          intro l1
          induction l1 with
          | nil => intro l2 h; simp only [renP] at h; obtain rfl := Option.some.inj h; rfl
          | cons p l1 ih =>
            intro l2 h
            obtain ⟨a, b⟩ := p
            simp only [renP] at h
            split at h
            · split at h
              · rename_i l3 h3'
                obtain rfl := Option.some.inj h
                simp [ih h3']
              · cases h
            · cases h
        have hn : ∀ l2 : List (Nat × A), l2.map (·.1) = ((i, x) :: l).map (·.1) → look .any l2 lo = .any := fun l2 he => by
          refine look_none fun k hk => ?_
          rw [he] at hk
          have := okKeys_ge hk' k hk
          omega
        rw [hn _ rfl]
        have := ren_from sel n d (lo + 1) ((i, x) :: l) (by omega) hk'
        simp only [renL, renA, this]
        cases hr : renP sel ((i, x) :: l) with
        | none => rfl
        | some l' =>
          simp only [Option.map_some]
          rw [plcFrom_step (lo := lo) (n := n) l' (by omega), hn l' (keys hr)]

theorem gc_plc (np n : Nat) (l : List (Nat × A)) (h : List Ob) (hk : okKeys (l.map (·.1)) 0 n = true) : gc np ⟨plc n .any l, h⟩ = gcT np n l h := by
  unfold gc gcT
  simp only [plc_from]
  rw [ids_from n n 0 l (by omega) hk]
  split
  · rfl
  · split
    · rw [ren_from _ n n 0 l (by omega) hk]
      cases renP (reach h 400 (((h.take np).flatMap idsOb) ++ idsP l) (List.range np)) l with
      | none => rfl
      | some l' =>
        simp only [Option.map_some]
        cases renH (reach h 400 (((h.take np).flatMap idsOb) ++ idsP l) (List.range np)) h (reach h 400 (((h.take np).flatMap idsOb) ++ idsP l) (List.range np)) <;> rfl
    · rfl

def keepL (z : A) (l : List (Nat × A)) : List Nat → List (Nat × A)
  | [] => []
  | k :: ks => (k, look z l k) :: keepL z l ks
theorem keepL_keys (z : A) (l : List (Nat × A)) : ∀ ks, (keepL z l ks).map (·.1) = ks
  | [] => rfl
  | k :: ks => by simp [keepL, keepL_keys z l ks]
theorem keepL_look (z : A) (l : List (Nat × A)) : ∀ (ks : List Nat) (j : Nat), look .any (keepL z l ks) j = if ks.contains j then look z l j else .any
  | [], j => by simp [keepL]
  | k :: ks, j => by
    simp only [keepL, look, keepL_look z l ks j]
    by_cases h : k = j
    · subst h; simp
    · simp [h, Ne.symm h]
theorem keepOnly_at (keep : List Nat) : ∀ (xs : List A) (j k : Nat), (keepOnly keep j xs)[k]? = (xs[k]?).map fun x => if keep.contains (j + k) then x else .any
  | [], j, k => by simp [keepOnly]
  | x :: xs, j, 0 => by simp [keepOnly]
  | x :: xs, j, k + 1 => by
    simp only [keepOnly, List.getElem?_cons_succ, keepOnly_at keep xs (j + 1) k]
    rw [show j + 1 + k = j + (k + 1) by omega]
theorem keepOnly_plc (keep : List Nat) (n : Nat) (z : A) (l : List (Nat × A)) : keepOnly keep 0 (plc n z l) = plc n .any (keepL z l keep) := by
  apply List.ext_getElem?
  intro j
  rw [keepOnly_at, plc_get, plc_get, keepL_look, Nat.zero_add]
  by_cases h : j < n <;> simp [h]
@[simp] theorem clean_plc (np : Nat) (keep : List Nat) (n : Nat) (z : A) (l : List (Nat × A)) (h : List Ob) (hk : okKeys keep 0 n = true) :
    clean np keep ⟨plc n z l, h⟩ = gcT np n (keepL z l keep) h := by
  unfold clean
  rw [keepOnly_plc, gc_plc np n _ h (by rw [keepL_keys]; exact hk)]
attribute [simp] enumA keepL okKeys gcT renP idsP
end Go.Flat
