/-
  Functions that call one another, gone through from without.
-/
import Derived.Test.YtldpbpgceplejaaFlatZ
namespace Go.Flat

theorem far_ite {α : Type} (N g : Nat) (a : α) (f : Nat → α) : (if g + N < N then a else f (g + N - N)) = f g := by rw [if_neg (by omega), Nat.add_sub_cancel]
theorem near_lt (N g : Nat) (h : ¬ N ≤ g) : g < N := by omega
theorem far_mod (N g : Nat) (h : g < N) : (g + N) % N = g := by rw [Nat.add_mod_right]; exact Nat.mod_eq_of_lt h

def strictOf (P : Program) (g : Nat) : Option (Func × Code) :=
  match P.funcs[g]? with
  | some fn =>
    match fn.body with
    | some c => if codeAll (chkD (tab P)) c && !(fn.name == "runtime.NumGoroutine") then some (fn, c) else none
    | none => none
  | none => none
def looseOf (P : Program) (g : Nat) : Option (Func × Code) :=
  match P.funcs[g]? with
  | some fn =>
    match fn.body with
    | some c => if codeAll (chkD2 (tab P)) c && !(fn.name == "runtime.NumGoroutine") then some (fn, c) else none
    | none => none
  | none => none
/-- The functions that may be gone through: with their code, looked after once. A function in which allocations aren't bound to one another stands 1000000 further on. -/
def tblOf (P : Program) : FuncId → Option (Func × Code) := fun g => if g < 1000000 then strictOf P g else looseOf P (g - 1000000)
theorem tbl_far (P : Program) (g : Nat) : tblOf P (g + 1000000) = looseOf P g := far_ite 1000000 g (strictOf P (g + 1000000)) (looseOf P)
theorem tbl_near (P : Program) (g : Nat) (h : g < 1000000) : tblOf P g = strictOf P g := if_pos h

/-- B: what is known of functions; the others are gone through, d deep. -/
noncomputable def evFn (τ : Tab) (tb : FuncId → Option (Func × Code)) (B : Fns) (K : FuncId → Nat → List Nat) (n : Nat) : Nat → Fns
  | 0, g, args, h => B g args h
  | d + 1, g, args, h =>
    if g < 1000000 then
      match tb g with
      | some (fn, c) => evBody τ (evFn τ tb B K n d) (D1 τ (evFn τ tb B K n d)) (K g) n fn c args h
      | none =>
        match tb (g + 1000000) with
        | some (fn, c) => evBody τ (evFn τ tb B K n d) (D2 τ (evFn τ tb B K n d)) (K g) n fn c args h
        | none => B g args h
    else B g args h

theorem evFn_sound' {P : Program} (hm : P.follows .mixedOrders = true) {B : Fns} (hB : Sound P B) {tb : FuncId → Option (Func × Code)} (ht : ∀ g x, tb g = some x → tblOf P g = some x) (K : FuncId → Nat → List Nat) (n d : Nat) : Sound P (evFn (tab P) tb B K n d) := by
  induction d with
  | zero => exact hB
  | succ d ih =>
    intro g args h r h' he
    simp only [evFn] at he
    split at he
    · rename_i hg
      split at he
      · rename_i fn c htb0
        have htb := ht _ _ htb0
        rw [tbl_near P g hg] at htb
        unfold strictOf at htb
        split at htb
        · rename_i fn' hfn
          split at htb
          · rename_i c' hc'
            split at htb
            · rename_i hck
              obtain ⟨rfl, rfl⟩ := Prod.mk.inj (Option.some.inj htb)
              simp only [Bool.and_eq_true, Bool.not_eq_true'] at hck
              exact sound_body ih (D1_sound hm ih) (K g) n hck.1 hfn hck.2 hc' he
            · cases htb
          · cases htb
        · cases htb
      · split at he
        · rename_i fn c htb0
          have htb := ht _ _ htb0
          rw [tbl_far P g] at htb
          unfold looseOf at htb
          split at htb
          · rename_i fn' hfn
            split at htb
            · rename_i c' hc'
              split at htb
              · rename_i hck
                obtain ⟨rfl, rfl⟩ := Prod.mk.inj (Option.some.inj htb)
                simp only [Bool.and_eq_true, Bool.not_eq_true'] at hck
                exact sound_body ih (D2_sound hm ih) (K g) n hck.1 hfn hck.2 hc' he
              · cases htb
            · cases htb
          · cases htb
        · exact hB g args h r h' he
    · exact hB g args h r h' he
theorem evFn_sound {P : Program} (hm : P.follows .mixedOrders = true) {B : Fns} (hB : Sound P B) (K : FuncId → Nat → List Nat) (n d : Nat) : Sound P (evFn (tab P) (tblOf P) B K n d) := evFn_sound' hm hB (fun _ _ h => h) K n d

/-- The table without some functions: of these what is known is asked. -/
def cut (L : List FuncId) (tb : FuncId → Option (Func × Code)) : FuncId → Option (Func × Code) := fun g => if L.contains (g % 1000000) then none else tb g
theorem cut_le {L : List FuncId} {tb : FuncId → Option (Func × Code)} {g : FuncId} {x : Func × Code} (h : cut L tb g = some x) : tb g = some x := by
  unfold cut at h
  split at h
  · cases h
  · exact h
theorem cut_no {L : List FuncId} {tb : FuncId → Option (Func × Code)} {g : FuncId} (h : (L.contains g || decide (1000000 ≤ g)) = false) : g < 1000000 ∧ cut L tb g = tb g ∧ cut L tb (g + 1000000) = tb (g + 1000000) := by
  simp only [Bool.or_eq_false_iff, decide_eq_false_iff_not] at h
  have hg : g < 1000000 := near_lt 1000000 g h.2
  have h1 : g % 1000000 = g := Nat.mod_eq_of_lt hg
  have h2 : (g + 1000000) % 1000000 = g := far_mod 1000000 g hg
  exact ⟨hg, by unfold cut; rw [h1, h.1]; rfl, by unfold cut; rw [h2, h.1]; rfl⟩
theorem call_cut {τ : Tab} {tb : FuncId → Option (Func × Code)} {g : FuncId} {fn : Func} {c : Code} (ht : tb g = some (fn, c)) {L : List FuncId} (hL : (L.contains g || decide (1000000 ≤ g)) = false) (B : Fns) (K : FuncId → Nat → List Nat) (n d : Nat) (args : List A) (h : List Ob) :
    evFn τ (cut L tb) B K n (d + 1) g args h = evBody τ (evFn τ (cut L tb) B K n d) (D1 τ (evFn τ (cut L tb) B K n d)) (K g) n fn c args h := by
  obtain ⟨h1, h2, -⟩ := cut_no (tb := tb) hL
  rw [evFn, if_pos h1, h2, ht]
/-- Of a function in which allocations aren't bound to one another. -/
theorem call_loose {τ : Tab} {tb : FuncId → Option (Func × Code)} {g : FuncId} {fn : Func} {c : Code} (h0 : tb g = none) (ht : tb (g + 1000000) = some (fn, c)) {L : List FuncId} (hL : (L.contains g || decide (1000000 ≤ g)) = false) (B : Fns) (K : FuncId → Nat → List Nat) (n d : Nat) (args : List A) (h : List Ob) :
    evFn τ (cut L tb) B K n (d + 1) g args h = evBody τ (evFn τ (cut L tb) B K n d) (D2 τ (evFn τ (cut L tb) B K n d)) (K g) n fn c args h := by
  obtain ⟨h1, h2, h3⟩ := cut_no (tb := tb) hL
  rw [evFn, if_pos h1, h2, h0, h3, ht]
theorem call_known {τ : Tab} {tb : FuncId → Option (Func × Code)} {g : FuncId} {L : List FuncId} (hL : L.contains g = true) (B : Fns) (K : FuncId → Nat → List Nat) (n d : Nat) (args : List A) (h : List Ob) :
    evFn τ (cut L tb) B K n (d + 1) g args h = B g args h := by
  rw [evFn]
  split
  · rename_i hg
    have h1 : cut L tb g = none := by unfold cut; rw [Nat.mod_eq_of_lt hg, hL, if_pos rfl]
    have h2 : cut L tb (g + 1000000) = none := by unfold cut; rw [far_mod 1000000 g hg, hL, if_pos rfl]
    rw [h1, h2]
  · rfl

def noFns : Fns := fun _ _ _ => none
theorem noFns_sound (P : Program) : Sound P noFns := fun _ _ _ _ _ he => by cases he

/-- Behind a round: what is kept of it. -/
def loopK (cl : St → Option St) : Option Out → Option St
  | some (.normal s) => cl s
  | _ => none
@[simp] theorem loopK_normal (cl : St → Option St) (s : St) : loopK cl (some (.normal s)) = cl s := rfl

/-- A loop, round by round: for loops whose rounds are numbered by known numbers. -/
def loopT (f : St → Option Out) (cl : St → Option St) (n : Nat) : Option Out → Option Out
  | some (.normal s) => evLoop f cl n s
  | some (.ret s) => some (.ret s)
  | some (.exit id s) => some (.exit id s)
  | none => none
def loopS (f : St → Option Out) (cl : St → Option St) (n : Nat) : Option St → Option Out
  | some s => loopT f cl n (f s)
  | none => none
theorem evLoop_step (f : St → Option Out) (cl : St → Option St) (n : Nat) (s : St) : evLoop f cl (n + 1) s = loopS f cl n (cl s) := by
  simp only [evLoop]
  cases cl s with
  | none => rfl
  | some s1 =>
    simp only [loopS]
    cases f s1 with
    | none => rfl
    | some o => cases o <;> rfl
@[simp] theorem loopS_some (f : St → Option Out) (cl : St → Option St) (n : Nat) (s : St) : loopS f cl n (some s) = loopT f cl n (f s) := rfl
@[simp] theorem loopT_normal (f : St → Option Out) (cl : St → Option St) (n : Nat) (s : St) : loopT f cl n (some (.normal s)) = evLoop f cl n s := rfl
@[simp] theorem loopT_ret (f : St → Option Out) (cl : St → Option St) (n : Nat) (s : St) : loopT f cl n (some (.ret s)) = some (.ret s) := rfl
@[simp] theorem loopT_exit (f : St → Option Out) (cl : St → Option St) (n id : Nat) (s : St) : loopT f cl n (some (.exit id s)) = some (.exit id s) := rfl

/-- A loop that goes round N times, and then ends: S i is what is there at its head, the i-th time. -/
theorem evLoop_for {f : St → Option Out} {cl : St → Option St} {s0 : St} (S : Nat → St) (N : Nat) (out : Out) (fuel : Nat)
    (h0 : cl s0 = some (S 0)) (hstep : ∀ i, i < N → loopK cl (f (S i)) = some (S (i + 1)))
    (hend : f (S N) = some out) (hout : (match out with | .normal _ => false | _ => true) = true) (hf : N < fuel) : evLoop f cl fuel s0 = some out := by
  have key : ∀ k s n, k ≤ N → cl s = some (S (N - k)) → k < n → evLoop f cl n s = some out := by
    intro k
    induction k with
    | zero =>
      intro s n _ hs hn
      obtain ⟨n, rfl⟩ : ∃ n', n = n' + 1 := ⟨n - 1, by omega⟩
      simp only [evLoop, hs, Nat.sub_zero, hend]
      cases out with
      | normal s => cases hout
      | ret s => rfl
      | exit id s => rfl
    | succ k ih =>
      intro s n hk hs hn
      obtain ⟨n, rfl⟩ : ∃ n', n = n' + 1 := ⟨n - 1, by omega⟩
      have hst := hstep (N - (k + 1)) (by omega)
      simp only [evLoop, hs]
      unfold loopK at hst
      split at hst
      · rename_i s' hs'
        simp only [hs']
        refine ih s' n (by omega) ?_ (by omega)
        rw [hst]
        congr 2
        omega
      · cases hst
  exact key N s0 fuel (Nat.le_refl _) (by rw [Nat.sub_self]; exact h0) hf

/-- Places, by their numbers; the others hold anything. -/
def slots (n : Nat) (l : List (Nat × A)) : List A := l.foldl (fun t p => t.set p.1 p.2) (List.replicate n .any)

/- The evaluation, by simp: what stands behind a step is opened when the step's answer is known, not before. -/
section
variable {τ : Tab} {F : Fns} {D : List Oper → St → Option St} {np n : Nat} {K : Nat → List Nat}

def seqK (τ : Tab) (F : Fns) (D : List Oper → St → Option St) (np : Nat) (K : Nat → List Nat) (n : Nat) (b : Code) : Option Out → Option Out
  | some (.normal s) => evCode τ F D np K n b s
  | some (.ret s) => some (.ret s)
  | some (.exit id s) => some (.exit id s)
  | none => none
def regK : Option St → Option Out
  | some s => some (.normal s)
  | none => none
def blockK (id : Nat) : Option Out → Option Out
  | some (.exit id' s) => if id' = id then some (.normal s) else some (.exit id' s)
  | r => r
def condK (τ : Tab) (F : Fns) (D : List Oper → St → Option St) (np : Nat) (K : Nat → List Nat) (n : Nat) (a b : Code) (s : St) : A → Option Out
  | .v (.bool x) => if x then evCode τ F D np K n a s else evCode τ F D np K n b s
  | _ => none
def gcK : Option St → Option (A × List Ob)
  | some ⟨[r], h⟩ => some (r, h)
  | _ => none
def endK (np : Nat) (h : List Ob) : Option (List A) → Option (A × List Ob)
  | some xs => gcK (gc np ⟨[tupA xs], h⟩)
  | none => none
def bodyK (τ : Tab) (rs : List ResultVar) (np : Nat) : Option Out → Option (A × List Ob)
  | some (.normal s) => endK np s.h (evResults τ s.t s.h rs)
  | some (.ret s) => endK np s.h (evResults τ s.t s.h rs)
  | _ => none
def opsK (τ : Tab) (F : Fns) (all rest : List Oper) (o : Oper) (t : List A) : Option (A × List Ob) → Option St
  | some (x, h') => evOps τ F all rest ⟨putT t o.dst x, h'⟩
  | none => none
def opsW (τ : Tab) (F : Fns) (all rest : List Oper) (o : Oper) (t : List A) (h : List Ob) : Option Bool → Option St
  | some true => opsK τ F all rest o t (evOp τ F o t h)
  | some false => evOps τ F all rest ⟨putT t o.dst (.v undef), h⟩
  | none => none
def stepW (τ : Tab) (F : Fns) (o : Oper) (t : List A) (h : List Ob) : Option Bool → Option (A × List Ob)
  | some true => evOp τ F o t h
  | some false => some (.v undef, h)
  | none => none
def runL (τ : Tab) (o : Oper) (t : List A) (h : List Ob) (x : A) : Option (List (List A × A) × List (List Ob) × List A) → Option (List (List A × A) × List (List Ob) × List A)
  | some (ts, hs, t') => some ((t, x) :: ts, (if moves τ o then h :: hs else hs), t')
  | none => none
def runK (τ : Tab) (F : Fns) (all rest : List Oper) (o : Oper) (t : List A) (h : List Ob) : Option (A × List Ob) → Option (List (List A × A) × List (List Ob) × List A)
  | some (x, h') => runL τ o t h x (runD τ F all rest (putT t o.dst x) h')
  | none => none
noncomputable def dK (τ : Tab) (F : Fns) (ops : List Oper) : Option (List (List A × A) × List (List Ob) × List A) → Option St
  | some (_, [h'], t') => some ⟨t', h'⟩
  | some (ts, hs, t') =>
    if chkR τ F ops (closGo ops []) hs 0 ops ts then
      match hs.getLast? with
      | some h' => some ⟨t', h'⟩
      | none => none
    else none
  | none => none

noncomputable def dK2 (τ : Tab) (F : Fns) (ops : List Oper) : Option (List (List A × A) × List (List Ob) × List A) → Option St
  | some (_, [h'], t') => some ⟨t', h'⟩
  | some (ts, hs, t') =>
    if chkH hs && chkR τ F ops (closGo ops []) hs 0 ops ts && chkL τ (closGo ops []) hs (mvs τ hs 0 0 ops) 0 0 ops ts then
      match hs.getLast? with
      | some h' => some ⟨t', h'⟩
      | none => none
    else none
  | none => none

@[simp] theorem ev_skip (s : St) : evCode τ F D np K n .skip s = some (.normal s) := rfl
@[simp] theorem ev_region (id : Nat) (ops : Array Oper) (s : St) : evCode τ F D np K n (.region id ops false) s = regK (evOps τ F ops.toList ops.toList s) := by
  simp only [evCode, Bool.false_eq_true, if_false]
  cases evOps τ F ops.toList ops.toList s <;> rfl
@[simp] theorem ev_drawn (id : Nat) (ops : Array Oper) (s : St) : evCode τ F D np K n (.region id ops true) s = regK (D ops.toList s) := by
  simp only [evCode, if_true]
  cases D ops.toList s <;> rfl
@[simp] theorem ev_seq (a b : Code) (s : St) : evCode τ F D np K n (.seq a b) s = seqK τ F D np K n b (evCode τ F D np K n a s) := by
  simp only [evCode]
  cases evCode τ F D np K n a s with
  | none => rfl
  | some o => cases o <;> rfl
@[simp] theorem ev_cond (c : Operand) (a b : Code) (s : St) : evCode τ F D np K n (.cond c a b) s = condK τ F D np K n a b s (ofOp s.t c) := by
  simp only [evCode, condK]
  split <;> simp_all
@[simp] theorem ev_block (id : Nat) (a : Code) (s : St) : evCode τ F D np K n (.block id a) s = blockK id (evCode τ F D np K n a s) := by
  simp only [evCode]
  cases evCode τ F D np K n a s with
  | none => rfl
  | some o => cases o <;> rfl
@[simp] theorem ev_loop (a : Code) (s : St) : evCode τ F D np K n (.loop a) s = evLoop (evCode τ F D np K n a) (clean np (K (firstId a))) n s := rfl
@[simp] theorem ev_exit (id : Nat) (s : St) : evCode τ F D np K n (.exit id) s = some (.exit id s) := rfl
@[simp] theorem ev_ret (s : St) : evCode τ F D np K n .ret s = some (.ret s) := rfl
@[simp] theorem ev_scope (a : Code) (s : St) : evCode τ F D np K n (.scope a) s = evCode τ F D np K n a s := rfl
@[simp] theorem ev_label (l : Nat) (s : St) : evCode τ F D np K n (.label l) s = some (.normal s) := rfl
@[simp] theorem seqK_normal (b : Code) (s : St) : seqK τ F D np K n b (some (.normal s)) = evCode τ F D np K n b s := rfl
@[simp] theorem seqK_ret (b : Code) (s : St) : seqK τ F D np K n b (some (.ret s)) = some (.ret s) := rfl
@[simp] theorem seqK_exit (b : Code) (id : Nat) (s : St) : seqK τ F D np K n b (some (.exit id s)) = some (.exit id s) := rfl
@[simp] theorem seqK_none (b : Code) : seqK τ F D np K n b none = none := rfl
@[simp] theorem regK_some (s : St) : regK (some s) = some (.normal s) := rfl
@[simp] theorem regK_none : regK none = none := rfl
@[simp] theorem blockK_normal (id : Nat) (s : St) : blockK id (some (.normal s)) = some (.normal s) := rfl
@[simp] theorem blockK_ret (id : Nat) (s : St) : blockK id (some (.ret s)) = some (.ret s) := rfl
@[simp] theorem blockK_exit (id id' : Nat) (s : St) : blockK id (some (.exit id' s)) = if id' = id then some (.normal s) else some (.exit id' s) := rfl
@[simp] theorem blockK_none (id : Nat) : blockK id none = none := rfl
@[simp] theorem condK_true (a b : Code) (s : St) : condK τ F D np K n a b s (.v (.bool true)) = evCode τ F D np K n a s := rfl
@[simp] theorem condK_false (a b : Code) (s : St) : condK τ F D np K n a b s (.v (.bool false)) = evCode τ F D np K n b s := rfl
theorem ev_end (fn : Func) (s : St) : evEnd τ fn np s = endK np s.h (evResults τ s.t s.h fn.results.toList) := by
  unfold evEnd
  cases evResults τ s.t s.h fn.results.toList with
  | none => rfl
  | some xs =>
    simp only [endK]
    rcases gc np ⟨[tupA xs], s.h⟩ with _ | ⟨t, h⟩
    · rfl
    · rcases t with _ | ⟨a, _ | ⟨b, l⟩⟩ <;> rfl
@[simp] theorem ev_body (fn : Func) (c : Code) (args : List A) (h : List Ob) : evBody τ F D K n fn c args h = bodyK τ fn.results.toList h.length (evCode τ F D h.length K n c ⟨frame fn args, h⟩) := by
  unfold evBody
  cases evCode τ F D h.length K n c ⟨frame fn args, h⟩ with
  | none => rfl
  | some o => cases o <;> simp [bodyK, ev_end]
@[simp] theorem bodyK_normal (rs : List ResultVar) (s : St) : bodyK τ rs np (some (.normal s)) = endK np s.h (evResults τ s.t s.h rs) := rfl
@[simp] theorem bodyK_ret (rs : List ResultVar) (s : St) : bodyK τ rs np (some (.ret s)) = endK np s.h (evResults τ s.t s.h rs) := rfl
@[simp] theorem bodyK_none (rs : List ResultVar) : bodyK τ rs np none = none := rfl
@[simp] theorem endK_some (h : List Ob) (xs : List A) : endK np h (some xs) = gcK (gc np ⟨[tupA xs], h⟩) := rfl
@[simp] theorem endK_none (h : List Ob) : endK np h none = none := rfl
@[simp] theorem gcK_some (r : A) (h : List Ob) : gcK (some ⟨[r], h⟩) = some (r, h) := rfl
@[simp] theorem evOps_nil (all : List Oper) (s : St) : evOps τ F all [] s = some s := rfl
@[simp] theorem evOps_cons (all rest : List Oper) (o : Oper) (s : St) : evOps τ F all (o :: rest) s = opsW τ F all rest o s.t s.h (wanted? all s.t o) := by
  simp only [evOps]
  cases wanted? all s.t o with
  | none => rfl
  | some b =>
    cases b with
    | false => rfl
    | true =>
      simp only [opsW]
      cases evOp τ F o s.t s.h <;> rfl
@[simp] theorem opsW_true (all rest : List Oper) (o : Oper) (t : List A) (h : List Ob) : opsW τ F all rest o t h (some true) = opsK τ F all rest o t (evOp τ F o t h) := rfl
@[simp] theorem opsW_false (all rest : List Oper) (o : Oper) (t : List A) (h : List Ob) : opsW τ F all rest o t h (some false) = evOps τ F all rest ⟨putT t o.dst (.v undef), h⟩ := rfl
@[simp] theorem opsW_none (all rest : List Oper) (o : Oper) (t : List A) (h : List Ob) : opsW τ F all rest o t h none = none := rfl
@[simp] theorem opsK_some (all rest : List Oper) (o : Oper) (t : List A) (x : A) (h : List Ob) : opsK τ F all rest o t (some (x, h)) = evOps τ F all rest ⟨putT t o.dst x, h⟩ := rfl
@[simp] theorem opsK_none (all rest : List Oper) (o : Oper) (t : List A) : opsK τ F all rest o t none = none := rfl
@[simp] theorem D1_eq (ops : List Oper) (s : St) : D1 τ F ops s = dK τ F ops (runD τ F ops ops s.t s.h) := by
  unfold D1
  rcases runD τ F ops ops s.t s.h with _ | ⟨ts, _ | ⟨h, _ | ⟨h2, hs⟩⟩, t⟩ <;> rfl
@[simp] theorem dK_one (ops : List Oper) (ts : List (List A × A)) (h : List Ob) (t : List A) : dK τ F ops (some (ts, [h], t)) = some ⟨t, h⟩ := rfl
@[simp] theorem dK_more (ops : List Oper) (ts : List (List A × A)) (h h' : List Ob) (hs : List (List Ob)) (t : List A) : dK τ F ops (some (ts, h :: h' :: hs, t)) = if chkR τ F ops (closGo ops []) (h :: h' :: hs) 0 ops ts then some ⟨t, (h' :: hs).getLast (by simp)⟩ else none := by
  simp only [dK, List.getLast?_cons_cons]
  rw [List.getLast?_eq_some_getLast (by simp)]
@[simp] theorem D2_eq (ops : List Oper) (s : St) : D2 τ F ops s = dK2 τ F ops (runD τ F ops ops s.t s.h) := by
  unfold D2
  rcases runD τ F ops ops s.t s.h with _ | ⟨ts, _ | ⟨h, _ | ⟨h2, hs⟩⟩, t⟩ <;> rfl
@[simp] theorem dK2_one (ops : List Oper) (ts : List (List A × A)) (h : List Ob) (t : List A) : dK2 τ F ops (some (ts, [h], t)) = some ⟨t, h⟩ := rfl
@[simp] theorem dK2_more (ops : List Oper) (ts : List (List A × A)) (h h' : List Ob) (hs : List (List Ob)) (t : List A) : dK2 τ F ops (some (ts, h :: h' :: hs, t)) =
    if chkH (h :: h' :: hs) && chkR τ F ops (closGo ops []) (h :: h' :: hs) 0 ops ts && chkL τ (closGo ops []) (h :: h' :: hs) (mvs τ (h :: h' :: hs) 0 0 ops) 0 0 ops ts then some ⟨t, (h' :: hs).getLast (by simp)⟩ else none := by
  simp only [dK2, List.getLast?_cons_cons]
  rw [List.getLast?_eq_some_getLast (by simp)]
@[simp] theorem runD_nil (all : List Oper) (t : List A) (h : List Ob) : runD τ F all [] t h = some ([], [h], t) := rfl
@[simp] theorem runD_cons (all rest : List Oper) (o : Oper) (t : List A) (h : List Ob) : runD τ F all (o :: rest) t h = runK τ F all rest o t h (stepAt τ F all o t h) := by
  simp only [runD]
  cases stepAt τ F all o t h with
  | none => rfl
  | some p =>
    obtain ⟨x, h'⟩ := p
    simp only [runK]
    cases runD τ F all rest (putT t o.dst x) h' <;> rfl
@[simp] theorem runK_some (all rest : List Oper) (o : Oper) (t : List A) (h h' : List Ob) (x : A) : runK τ F all rest o t h (some (x, h')) = runL τ o t h x (runD τ F all rest (putT t o.dst x) h') := rfl
@[simp] theorem runL_some (o : Oper) (t : List A) (h : List Ob) (x : A) (ts : List (List A × A)) (hs : List (List Ob)) (t' : List A) : runL τ o t h x (some (ts, hs, t')) = some ((t, x) :: ts, (if moves τ o then h :: hs else hs), t') := rfl
@[simp] theorem step_at (all : List Oper) (o : Oper) (t : List A) (h : List Ob) : stepAt τ F all o t h = stepW τ F o t h (wanted? all t o) := by
  unfold stepAt
  cases wanted? all t o with
  | none => rfl
  | some b => cases b <;> rfl
@[simp] theorem stepW_true (o : Oper) (t : List A) (h : List Ob) : stepW τ F o t h (some true) = evOp τ F o t h := rfl
@[simp] theorem stepW_false (o : Oper) (t : List A) (h : List Ob) : stepW τ F o t h (some false) = some (.v undef, h) := rfl
end

@[simp] theorem bef_eq (cl : List Nat) (j i : Nat) : bef cl j i = decide (cl.getD i 0 / 2 ^ j % 2 = 1) := by unfold bef; rw [Nat.testBit_eq_decide_div_mod_eq]
@[simp] theorem int_beq (a b : Int) : (a == b) = decide (a = b) := by by_cases h : a = b <;> simp [h]
@[simp] theorem int_bne (a b : Int) : (a != b) = !decide (a = b) := by by_cases h : a = b <;> simp [h]

attribute [simp] evOp frame ofOp putT wanted? yields? evBin evEqOp evEq ofValue evFieldAddr evField evLoad evStore getCells putCells ofCells Ob.list? D.agg addP evConvert int? wr evFold evMin2 one flat Value.oneCell' cellsOf splice evResults evResult gc tupA
  evAlloc evBox evBuild evBuildSlice evMakeSlice evIndexAddr evIndex evSlice evAppend evCopy evLen evUn evToArr fillCells rep newOb isArr freeze freezeAll sliceCells source sliceElem bound lowB bnd isByte byteVal byteA evEqT eqParts partA
  IntKind.bits clean keepOnly reach renA renL renE renOb renH idsA idsL idsOb nodupB idx shared moves readsIt kindOf qConv chkR chkAt okAt same_self slots closGo closStep Region.binds firstId
  allocs mvs outB awayFrom opIds chkOne chkL idsIn chkH HH

end Go.Flat
