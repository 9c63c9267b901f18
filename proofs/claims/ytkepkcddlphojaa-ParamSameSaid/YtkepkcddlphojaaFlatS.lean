/-
  From a run to a row: a struct of nine whole numbers and a slice of bytes that came in.
-/
import Derived.Test.YtkepkcddlphojaaFlatR
namespace Go.Flat
open Go.ChangeShapes Go.WideShapes Go.ChangeAt Go.RowKit
section
variable {H : Type} {enc : TypeId × Value → H} {P : Program} {W : World} {t e : TypeId} {k : IntKind}

/-- A slice of whole numbers, as cells. -/
theorem came_cells {held : Bool} (ht : P.underlying t = some (.slice e)) (he : P.underlying e = some (.int k)) (hc : P.cellsOf e = 1) {fuel : Nat} {cs : List Value} {x : DataW H × List MemPlace}
    (h : DataW.trod enc P W 0 (fun _ => true) held fuel t cs = some x) : ∃ (v : Value) (zs : List Int), cs = [v] ∧ VRel (immOf W) [] (.lst zs.length (zs.map (intA k))) v ∧ (∀ n ∈ zs, (Lit.int k n).wf = true) ∧ zs.length ≤ maxLen := by
  rcases open_ints ht he hc h with ⟨hcs, _⟩ | ⟨x, len, cap, zs, hcs, _, hl, hm, hz, _, hcell, hwz⟩
  · exact ⟨_, [], hcs, .flat .lstN, fun n hn => by simp at hn, Nat.zero_le _⟩
  · simp only [if_true] at hz
    have hlen : (zs.take len).length = len := by rw [List.length_take]; omega
    refine ⟨_, zs.take len, hcs, ?_, fun n hn => hwz n (List.mem_of_mem_take hn), by omega⟩
    rw [hlen]
    by_cases h0 : len = 0
    · subst h0
      simp only [List.take_zero, List.map_nil]
      exact .flat (.lst0 _ _ hm)
    · obtain ⟨b, o, s⟩ := x
      have hs : s = none := by
        have h1 := hcell 0 (by omega)
        cases s with
        | none => rfl
        | some i =>
          exfalso
          have h2 : W.cell? ⟨b, o, some i⟩ = some (.int k (zs.getD 0 0)) := h1
          unfold World.cell? at h2
          split at h2
          · simp at h2
          · cases h2
      subst hs
      refine .flat (.lst len cap b o _ (fun j => .int k (zs.getD j 0)) hl hm (fun j c hj => ?_) (fun j c hj => ?_))
      · have hj' : j < len := by have := (List.getElem?_eq_some_iff.1 hj).1; rw [List.length_map, hlen] at this; exact this
        have h2 := hcell j (by omega)
        rw [addr_add] at h2
        exact h2
      · have hj' : j < len := by have := (List.getElem?_eq_some_iff.1 hj).1; rw [List.length_map, hlen] at this; exact this
        rw [List.getElem?_map, List.getElem?_take_of_lt hj'] at hj
        obtain ⟨n, hn⟩ : ∃ n, zs[j]? = some n := ⟨_, List.getElem?_eq_getElem (by omega)⟩
        rw [hn] at hj
        simp only [Option.map_some, Option.some.injEq] at hj
        subst hj
        simp only [List.getD_eq_getElem?_getD, hn, Option.getD_some]
        exact .v _

def params10 (fs : Array Field) (ti ts : TypeId) : Bool := (List.range 10).all fun i => match fs[i]? with | some f => f.offset == i && f.type == (if i < 9 then ti else ts) | none => false

theorem vrel_agg {I : Imm} {m : List Loc} {xs : List A} {ys : List Value} (h : Rels I m xs ys) : VRel I m (.agg xs) (.agg ys.toArray) := .agg xs ys h.1 h.2

theorem came_params {held : Bool} {fs : Array Field} {ti ts : TypeId} (ht : P.underlying t = some (.struct fs)) (hk : params10 fs ti ts = true) (hi : P.underlying ti = some (.int .u64)) (hs : P.underlying ts = some (.slice e)) (he : P.underlying e = some (.int .u8)) (hc : P.cellsOf e = 1)
    (c1 : P.cellsOf ti = 1) (c2 : P.cellsOf ts = 1) (c3 : P.cellsOf t = 10) {r : Reach} {b0 : Nat} {v : Value} {d : DataW H} {ps : List MemPlace} (hv : Value.okWide P W r b0 t v) (h : DataW.Trod enc P W 0 (fun _ => true) held t v d ps) :
    ∃ (n0 n1 n2 n3 n4 n5 n6 n7 n8 : Int) (zs : List Int), VRel (immOf W) [] (.agg [intA .u64 n0, intA .u64 n1, intA .u64 n2, intA .u64 n3, intA .u64 n4, intA .u64 n5, intA .u64 n6, intA .u64 n7, intA .u64 n8, .lst zs.length (zs.map (intA .u8))]) v ∧
      (∀ n ∈ [n0, n1, n2, n3, n4, n5, n6, n7, n8], (Lit.int .u64 n).wf = true) ∧ (∀ n ∈ zs, (Lit.int .u8 n).wf = true) ∧ zs.length ≤ maxLen := by
  obtain ⟨cs, rfl, hsz⟩ := okWide_struct ht hv
  obtain ⟨fuel, hf⟩ := h
  obtain ⟨xs, m, -, -, hl, hxl, hx⟩ := DataW.trod_struct ht hf
  simp only [Value.cells] at hl hx
  obtain ⟨l, rfl⟩ : ∃ l : List Value, cs = l.toArray := ⟨cs.toList, by simp⟩
  simp only [List.toList_toArray] at hl hx
  rw [c3] at hl
  obtain ⟨y0, y1, y2, y3, y4, y5, y6, y7, y8, y9, rfl⟩ : ∃ y0 y1 y2 y3 y4 y5 y6 y7 y8 y9, l = [y0, y1, y2, y3, y4, y5, y6, y7, y8, y9] := by
    match l, hl with
    | [y0, y1, y2, y3, y4, y5, y6, y7, y8, y9], _ => exact ⟨_, _, _, _, _, _, _, _, _, _, rfl⟩
  have hk' : ∀ i, i < 10 → ∃ f, fs[i]? = some f ∧ f.offset = i ∧ f.type = if i < 9 then ti else ts := fun i hi => by
    have h1 := List.all_eq_true.1 hk i (List.mem_range.2 hi)
    split at h1
    · rename_i f hff
      simp only [Bool.and_eq_true, beq_iff_eq] at h1
      exact ⟨f, hff, h1.1, h1.2⟩
    · cases h1
  have each : ∀ i, i < 9 → ∃ z, (([y0, y1, y2, y3, y4, y5, y6, y7, y8, y9].drop i).take 1) = [.int .u64 z] ∧ (Lit.int .u64 z).wf = true := fun i hi9 => by
    obtain ⟨f, hff, ho, hty⟩ := hk' i (by omega)
    rw [if_pos hi9] at hty
    have h1 := hx i f hff
    have hlt : i < xs.length := by rw [hxl]; exact (Array.getElem?_eq_some_iff.1 hff).1
    rw [hty, c1, ho, List.getElem?_eq_getElem hlt] at h1
    obtain ⟨z, hz, -, hw⟩ := DataW.trod_int hi h1
    exact ⟨z, hz, hw⟩
  obtain ⟨f, hff, ho, hty⟩ := hk' 9 (by omega)
  rw [if_neg (by decide)] at hty
  have h9 := hx 9 f hff
  have hlt : 9 < xs.length := by rw [hxl]; exact (Array.getElem?_eq_some_iff.1 hff).1
  rw [hty, c2, ho, List.getElem?_eq_getElem hlt] at h9
  obtain ⟨v9, zs, e9, r9, w9, l9⟩ := came_cells hs he hc h9
  obtain ⟨z0, e0, g0⟩ := each 0 (by omega)
  obtain ⟨z1, e1, g1⟩ := each 1 (by omega)
  obtain ⟨z2, e2, g2⟩ := each 2 (by omega)
  obtain ⟨z3, e3, g3⟩ := each 3 (by omega)
  obtain ⟨z4, e4, g4⟩ := each 4 (by omega)
  obtain ⟨z5, e5, g5⟩ := each 5 (by omega)
  obtain ⟨z6, e6, g6⟩ := each 6 (by omega)
  obtain ⟨z7, e7, g7⟩ := each 7 (by omega)
  obtain ⟨z8, e8, g8⟩ := each 8 (by omega)
  simp only [List.drop_zero, List.drop_succ_cons, List.take_succ_cons, List.take_zero, List.cons.injEq, and_true] at e0 e1 e2 e3 e4 e5 e6 e7 e8 e9
  subst e0 e1 e2 e3 e4 e5 e6 e7 e8 e9
  refine ⟨z0, z1, z2, z3, z4, z5, z6, z7, z8, zs, vrel_agg ?_, ?_, w9, l9⟩
  · exact rels_cons (.flat (.v _)) (rels_cons (.flat (.v _)) (rels_cons (.flat (.v _)) (rels_cons (.flat (.v _)) (rels_cons (.flat (.v _)) (rels_cons (.flat (.v _)) (rels_cons (.flat (.v _)) (rels_cons (.flat (.v _)) (rels_cons (.flat (.v _)) (rels_cons r9 (rels_nil _ _))))))))))
  · intro n hn
    simp only [List.mem_cons, List.not_mem_nil, or_false] at hn
    rcases hn with rfl | rfl | rfl | rfl | rfl | rfl | rfl | rfl | rfl <;> assumption
end
end Go.Flat
