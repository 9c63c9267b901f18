/-
  From a run over the plain view to a row: what came in is read as values that nobody writes.
-/
import Derived.Test.YtldpbpgceplejaaFlatO
import Derived.WalkKit
import Derived.ProofKit
import Derived.OpenShut
import Derived.ShutString
import Derived.ChangeOld
import Derived.Below
import Derived.SizedLaws
import Derived.ChangeSlices
namespace Go.Flat
open Go.ChangeShapes Go.WideShapes Go.ChangeAt Go.RowKit

/-- What a world holds, as cells that keep what they hold. -/
def immOf (W : World) : Imm := fun b o => W.cell? ⟨b, o, none⟩

theorem rel_start (W : World) : Rel (immOf W) [] [] W :=
  ⟨rfl, fun _ _ _ h => h, fun i x l h _ => by simp at h, fun i j b o _ ⟨x, l, h, _⟩ => by simp at h, fun b o ⟨i, x, l, h, _⟩ => by simp at h⟩

theorem below_of_step {I I' : Imm} {m' : List Loc} {h' : List Ob} {W W' : World} (s : Step I [] [] W I' m' h' W') : Below W.heap.size W W' :=
  ⟨s.fr.os, s.fr.tape, s.fr.output, s.fr.size, fun k hk => s.fr.block k hk fun o ⟨i, x, l, h, _⟩ => by simp at h⟩

theorem calls_of_callsV {P : Program} {f : FuncId} {fn : Func} {c : Code} {args : Array Value} {w : World} {R : Value → World → Prop} (hf : P.funcs[f]? = some fn) (hn : (fn.name == "runtime.NumGoroutine") = false) (hb : fn.body = some c)
    (h : CallsV P f args w R) : Calls P f args w fun | .returned v, w'' => R v w'' | _, _ => False := by
  unfold CallsV callFunc at h
  simp only [Sem.run_bind, run_program, Result.andThen_ok, hf, hn, Bool.false_eq_true, if_false, hb, Option.isNone_some, Sem.run_pure] at h
  exact h

theorem calls_of_run {P : Program} {f : FuncId} {fn : Func} {c : Code} (hf : P.funcs[f]? = some fn) (hn : (fn.name == "runtime.NumGoroutine") = false) (hb : fn.body = some c) {F : Fns} (hF : Sound P F)
    {xs : List A} {h' : List Ob} {b : Bool} (he : F f xs [] = some (.v (.bool b), h')) {W : World} {cargs : List Value} (hr : Rels (immOf W) [] xs cargs) :
    Calls P f cargs.toArray W fun e W' => e = .returned (.bool b) ∧ Below W.heap.size W W' := by
  refine (calls_of_callsV hf hn hb (hF f xs [] _ h' he (immOf W) [] W cargs (rel_start W) hr)).mono fun e W' hh => ?_
  cases e with
  | returned v =>
    obtain ⟨I', m', hs, hv⟩ := hh
    cases hv with
    | flat hfl =>
      cases hfl
      exact ⟨rfl, below_of_step hs⟩
  | _ => exact hh.elim

theorem rels_nil (I : Imm) (m : List Loc) : Rels I m [] [] := ⟨rfl, fun j x y h _ => by simp at h⟩
theorem rels_cons {I : Imm} {m : List Loc} {x : A} {y : Value} {xs : List A} {ys : List Value} (h : VRel I m x y) (hs : Rels I m xs ys) : Rels I m (x :: xs) (y :: ys) :=
  ⟨by simp [hs.1], fun j a b ha hb => by
    cases j with
    | zero => simp at ha hb; subst ha; subst hb; exact h
    | succ j => exact hs.2 j a b (by simpa using ha) (by simpa using hb)⟩

def intA (k : IntKind) (n : Int) : A := .v (.int k n)

section
variable {H : Type} {enc : TypeId × Value → H} {P : Program} {W : World} {t e : TypeId} {k : IntKind} {v : Value} {d : DataW H} {ps : List MemPlace}

/-- A slice of whole numbers that came in. -/
theorem came_ints {held : Bool} (ht : P.underlying t = some (.slice e)) (he : P.underlying e = some (.int k)) (hc : P.cellsOf e = 1) {r : Reach} {b0 : Nat} (hv : Value.okWide P W r b0 t v)
    (h : DataW.Trod enc P W 0 (fun _ => true) held t v d ps) : ∃ zs : List Int, VRel (immOf W) [] (.lst zs.length (zs.map (intA k))) v ∧ (∀ n ∈ zs, (Lit.int k n).wf = true) ∧ zs.length ≤ maxLen := by
  obtain ⟨a, len, cap, rfl⟩ := okWide_slice ht hv
  obtain ⟨fuel, hf⟩ := h
  rcases open_ints ht he hc hf with ⟨hcs, _⟩ | ⟨x, l, c, zs, hcs, _, hl, hm, hz, _, hcell, hwz⟩
  · simp [Value.cells] at hcs
    obtain ⟨rfl, rfl, rfl⟩ := hcs
    exact ⟨[], .flat .lstN, fun n hn => by simp at hn, Nat.zero_le _⟩
  · simp [Value.cells] at hcs
    obtain ⟨rfl, rfl, rfl⟩ := hcs
    simp only [if_true] at hz
    have hlen : (zs.take len).length = len := by rw [List.length_take]; omega
    refine ⟨zs.take len, ?_, fun n hn => hwz n (List.mem_of_mem_take hn), by omega⟩
    rw [hlen]
    by_cases h0 : len = 0
    · subst h0
      simp only [List.take_zero, List.map_nil]
      exact .flat (.lst0 _ _ hm)
    · obtain ⟨b, o, s⟩ := x
      have hs : s = none := by
        have h1 := hcell 0 (by omega)
        cases s with
        | none => rfl
        | some i =>
          exfalso
          have h2 : W.cell? ⟨b, o, some i⟩ = some (.int k (zs.getD 0 0)) := h1
          unfold World.cell? at h2
          split at h2
          · simp at h2
          · cases h2
      subst hs
      refine .flat (.lst len cap b o _ (fun j => .int k (zs.getD j 0)) hl hm (fun j c hj => ?_) (fun j c hj => ?_))
      · have hj' : j < len := by have := (List.getElem?_eq_some_iff.1 hj).1; rw [List.length_map, hlen] at this; exact this
        have h2 := hcell j (by omega)
        rw [addr_add] at h2
        exact h2
      · have hj' : j < len := by have := (List.getElem?_eq_some_iff.1 hj).1; rw [List.length_map, hlen] at this; exact this
        rw [List.getElem?_map, List.getElem?_take_of_lt hj'] at hj
        obtain ⟨n, hn⟩ : ∃ n, zs[j]? = some n := ⟨_, List.getElem?_eq_getElem (by omega)⟩
        rw [hn] at hj
        simp only [Option.map_some, Option.some.injEq] at hj
        subst hj
        simp only [List.getD_eq_getElem?_getD, hn, Option.getD_some]
        exact .v _

theorem came_int {held : Bool} (ht : P.underlying t = some (.int k)) {r : Reach} {b0 : Nat} (hv : Value.okWide P W r b0 t v)
    (h : DataW.Trod enc P W 0 (fun _ => true) held t v d ps) : ∃ n : Int, VRel (immOf W) [] (intA k n) v ∧ (Lit.int k n).wf = true := by
  obtain ⟨n, rfl, _, _, hw⟩ := open_int ht hv h
  exact ⟨n, .flat (.v _), hw⟩

theorem came_bool {held : Bool} (ht : P.underlying t = some .bool) {r : Reach} {b0 : Nat} (hv : Value.okWide P W r b0 t v)
    (h : DataW.Trod enc P W 0 (fun _ => true) held t v d ps) : ∃ b : Bool, VRel (immOf W) [] (.v (.bool b)) v := by
  obtain ⟨b, rfl, _, _⟩ := open_bool ht hv h
  exact ⟨b, .flat (.v _)⟩

/-- An array of whole numbers that came in. -/
theorem came_arr {held : Bool} {n : Nat} (ht : P.underlying t = some (.array n e)) (he : P.underlying e = some (.int k)) (hc : P.cellsOf e = 1) (hn : P.cellsOf t = n) {r : Reach} {b0 : Nat} (hv : Value.okWide P W r b0 t v)
    (h : DataW.Trod enc P W 0 (fun _ => true) held t v d ps) : ∃ zs : List Int, VRel (immOf W) [] (.agg (zs.map (intA k))) v ∧ (∀ n ∈ zs, (Lit.int k n).wf = true) ∧ zs.length = n := by
  simp only [Value.okWide, ht] at hv
  obtain ⟨cs, rfl, hsz, -⟩ := hv
  obtain ⟨fuel, hf⟩ := h
  obtain ⟨xs, m, -, -, hl, hxl, hx⟩ := DataW.trod_array ht hf
  simp only [Value.cells, hc] at hl hx
  have each : ∀ i, i < n → ∃ z, cs.toList[i]? = some (.int k z) ∧ (Lit.int k z).wf = true := fun i hi => by
    have h1 := hx i hi
    rw [List.getElem?_eq_getElem (by omega)] at h1
    obtain ⟨z, hz, -, hw⟩ := DataW.trod_int he h1
    refine ⟨z, ?_, hw⟩
    have := congrArg (·[0]?) hz
    simpa using this
  have hcl : cs.toList.length = n := by rw [Array.length_toList, hsz, hn]
  refine ⟨cs.toList.map fun y => match y with | .int _ z => z | _ => 0, ?_, fun z hz => ?_, by rw [List.length_map, hcl]⟩
  · have : (Value.agg cs) = .agg cs.toList.toArray := by simp
    rw [this]
    refine .agg _ _ (by simp) fun j x y hx hy => ?_
    obtain ⟨z, hz, -⟩ := each j (by rw [← hcl]; exact (List.getElem?_eq_some_iff.1 hy).1)
    rw [hz] at hy
    obtain rfl := Option.some.inj hy
    rw [List.getElem?_map, List.getElem?_map, hz] at hx
    obtain rfl := Option.some.inj hx
    exact .flat (.v _)
  · obtain ⟨y, hy, rfl⟩ := List.mem_map.1 hz
    obtain ⟨j, hj, rfl⟩ := List.getElem_of_mem hy
    obtain ⟨z, hz, hw⟩ := each j (by omega)
    rw [List.getElem?_eq_getElem hj] at hz
    rw [Option.some.inj hz]
    exact hw

end
end Go.Flat
