/-
  The interpreter: what a function's code does to values and objects. Slices lie in rows of their own; an append goes on in a new row, the old one is given up; what lies in a row is written no more.
-/
import Derived.Test.YtldpbpgceplejaaFlatB
namespace Go.Flat

/-- What is asked of a type. -/
inductive D where
  | int (k : IntKind) | bool | string | slice (e : TypeId) | array (n : Nat) (e : TypeId) | struct (fs : List (Nat × TypeId)) | pointer (e : TypeId) | map (k e : TypeId) | other
structure Ty where
  size : Nat
  bytes : Nat
  zero : List Value
  desc : D
  eqs : Bool
abbrev Tab := TypeId → Option Ty

def D.agg : D → Bool
  | .array .. | .struct .. => true
  | _ => false

structure St where
  t : List A
  h : List Ob

def one : A → Bool
  | .v x => x.oneCell'
  | .agg _ | .tup _ | .any => false
  | _ => true
/-- It may lie in a row. -/
def flat : A → Bool
  | .v x => x.oneCell'
  | .lst .. | .fp .. => true
  | _ => false

def ofValue : Value → A
  | .agg cs => .agg (cs.toList.map .v)
  | .func (.func f) fs cs => if fs.size = 0 && cs.size = 0 && f < 1000000 then .fn f [] else .any
  | x => .v x

def ofOp (t : List A) : Operand → A
  | .tmp i => t.getD i .any
  | .const v => ofValue v
  | .global g => .v (.pointer (some ⟨g, 0, none⟩))
  | .func f => if f < 1000000 then .fn f [] else .any

def putT (t : List A) (d : Option Tmp) (x : A) : List A :=
  match d with
  | some d => t.set d x
  | none => t

def cellsOf : A → List A
  | .agg xs => xs
  | x => [x]

/-- An object's cells. -/
def Ob.list? : Ob → Option (List A)
  | .cells xs => some xs
  | .row xs => some xs
  | .ro xs => some xs
  | _ => none

/-- n cells behind a pointer. -/
def getCells (h : List Ob) (p : A) (n : Nat) : Option (List A) :=
  match p with
  | .ptr i off =>
    match (h[i]?).bind Ob.list? with
    | some xs => if off + n ≤ xs.length then some ((xs.drop off).take n) else none
    | none => none
  | .fp cs => if n ≤ cs.length then some (cs.take n) else none
  | _ => none

/-- A value out of its cells. -/
def ofCells (agg : Bool) (xs : List A) : Option A :=
  if agg then some (.agg xs) else match xs with | [x] => some x | _ => none

/-- A slice that lies in a row is written no more, if it is to lie in another one. -/
def freeze (h : List Ob) (x : A) : Option (A × List Ob) :=
  match x with
  | .sl i off n sz =>
    match h[i]? with
    | some (.row xs) => if off + n * sz ≤ xs.length then some (.lst n ((xs.drop off).take (n * sz)), h.set i (.ro xs)) else none
    | some (.ro xs) => if off + n * sz ≤ xs.length then some (.lst n ((xs.drop off).take (n * sz)), h) else none
    | _ => none
  | x => if flat x then some (x, h) else none
def freezeAll (h : List Ob) : List A → Option (List A × List Ob)
  | [] => some ([], h)
  | x :: xs =>
    match freeze h x with
    | some (y, h') => match freezeAll h' xs with | some (ys, h'') => some (y :: ys, h'') | none => none
    | none => none

/-- Cells are written behind a pointer. -/
def putCells (h : List Ob) (p : A) (news : List A) : Option (List Ob) :=
  match p with
  | .ptr i off =>
    match h[i]? with
    | some (.cells xs) => if off + news.length ≤ xs.length && news.all one then some (h.set i (.cells (splice xs off news))) else none
    | some (.row xs) => if off + news.length ≤ xs.length && news.all flat then some (h.set i (.row (splice xs off news))) else none
    | _ => none
  | _ => none

/-- A new variable of cells. -/
def newOb (arr : Bool) (xs : List A) (h : List Ob) : Option (A × List Ob) :=
  match arr with
  | true => if xs.all flat then some (.ptr h.length 0, h ++ [.row xs]) else none
  | false => if xs.all one then some (.ptr h.length 0, h ++ [.cells xs]) else none

def isArr : D → Bool
  | .array .. => true
  | _ => false

def fillCells (place : Nat → Option (Nat × Nat)) (cells : List A) : List (Nat × A) → Option (List A)
  | [] => some cells
  | (i, v) :: rest =>
    match place i with
    | none => none
    | some (off, size) => if (cellsOf v).length = size && off + size ≤ cells.length && (cellsOf v).all one then fillCells place (splice cells off (cellsOf v)) rest else none

def evBuild (τ : Tab) (t : TypeId) (parts : List (Nat × A)) : Option A :=
  match τ t with
  | some { desc := .struct fs, zero, .. } =>
    match fs.mapM (fun f => (τ f.2).map fun i => (f.1, i.size)) with
    | some places => (fillCells (fun i => places[i]?) (zero.map .v) parts).map .agg
    | none => none
  | some { desc := .array _ e, zero, .. } =>
    match τ e with
    | some ei => (fillCells (fun i => some (i * ei.size, ei.size)) (zero.map .v) parts).map .agg
    | none => none
  | _ => none

def rep (z : List A) : Nat → List A
  | 0 => []
  | n + 1 => z ++ rep z n

def evBuildSlice (τ : Tab) (t : TypeId) (len : Nat) (parts : List (Nat × A)) (h : List Ob) : Option (A × List Ob) :=
  match τ t with
  | some { desc := .slice e, .. } =>
    match τ e with
    | some ei =>
      if len * ei.size ≤ 16777216 && 0 < ei.size && ei.zero.length = ei.size then
        match fillCells (fun i => some (i * ei.size, ei.size)) (rep (ei.zero.map .v) len) parts with
        | some xs => some (.sl h.length 0 len ei.size, h ++ [if xs.all flat then .row xs else .cells xs])
        | none => none
      else none
    | none => none
  | _ => none

def evBox (τ : Tab) (t : TypeId) (v : A) (h : List Ob) : Option (A × List Ob) :=
  match τ t with
  | some i => newOb (isArr i.desc) (cellsOf v) h
  | none => none

def evAlloc (τ : Tab) (t : TypeId) (h : List Ob) : Option (A × List Ob) :=
  match τ t with
  | some i => newOb (isArr i.desc) (i.zero.map .v) h
  | none => none

def evLoad (τ : Tab) (t : TypeId) (p : A) (h : List Ob) : Option A :=
  match τ t with
  | some i => (getCells h p i.size).bind (ofCells i.desc.agg)
  | none => none

def evStore (τ : Tab) (t : TypeId) (p v : A) (h : List Ob) : Option (List Ob) :=
  match τ t with
  | some i => if (cellsOf v).length = i.size then putCells h p (cellsOf v) else none
  | none => none

/-- A pointer, so many cells on. -/
def addP (p : A) (n : Nat) : Option A :=
  match p with
  | .ptr i off => some (.ptr i (off + n))
  | .fp cs => some (.fp (cs.drop n))
  | _ => none

def evFieldAddr (τ : Tab) (s : TypeId) (p : A) (f : Nat) : Option A :=
  match τ s with
  | some { desc := .struct fs, .. } =>
    match fs[f]? with
    | some (off, ft) => match τ ft with | some fi => if 0 < fi.size then addP p off else none | none => none
    | none => none
  | _ => none

def evField (τ : Tab) (s : TypeId) (x : A) (f : Nat) : Option A :=
  match τ s, x with
  | some { desc := .struct fs, .. }, .agg xs =>
    match fs[f]? with
    | some (off, ft) => match τ ft with | some fi => if off + fi.size ≤ xs.length then ofCells fi.desc.agg ((xs.drop off).take fi.size) else none | none => none
    | none => none
  | _, _ => none

def int? : A → Option (IntKind × Int)
  | .v (.int k n) => some (k, n)
  | _ => none

def evIndexAddr (τ : Tab) (t : TypeId) (x ix : A) : Option A :=
  match int? ix with
  | some (_, i) =>
    match τ t with
    | some { desc := .array n e, .. } => match τ e with | some ei => if 0 ≤ i && i < n then addP x (i.toNat * ei.size) else none | none => none
    | some { desc := .slice e, .. } =>
      match τ e, x with
      | some ei, .sl o off n sz => if 0 ≤ i && i < n && sz = ei.size then some (.ptr o (off + i.toNat * sz)) else none
      | some ei, .lst n cs => if 0 ≤ i && i < n then some (.fp (cs.drop (i.toNat * ei.size))) else none
      | _, _ => none
    | _ => none
  | none => none

def evIndex (τ : Tab) (t : TypeId) (x ix : A) : Option A :=
  match int? ix with
  | some (_, i) =>
    match τ t, x with
    | some { desc := .array n e, .. }, .agg xs =>
      match τ e with
      | some ei => if 0 ≤ i && i < n && i.toNat * ei.size + ei.size ≤ xs.length then ofCells ei.desc.agg ((xs.drop (i.toNat * ei.size)).take ei.size) else none
      | none => none
    | some { desc := .string, .. }, .v (.string s) => if 0 ≤ i && i < s.size then some (.v (.int .u8 (s.data.toList.getD i.toNat 0).toNat)) else none
    | _, _ => none
  | none => none

/-- A bound: a number from 0 to n. -/
def bound (n : Nat) (x : A) : Option Nat :=
  match int? x with
  | some (_, i) => if 0 ≤ i && i ≤ n then some i.toNat else none
  | none => none
def lowB (lo : Option A) (hh : Nat) : Option (Nat × Nat) :=
  match lo with
  | none => some (0, hh)
  | some x => match bound hh x with | some l => some (l, hh) | none => none
/-- Where a slice's bounds lie: low, high. -/
def bnd (n : Nat) (lo hi mx : Option A) : Option (Nat × Nat) :=
  match mx, hi with
  | none, none => lowB lo n
  | none, some x => match bound n x with | some hh => lowB lo hh | none => none
  | some z, some x => match bound n z with | some k => (match bound k x with | some hh => lowB lo hh | none => none) | none => none
  | some _, none => none

def evSlice (τ : Tab) (t : TypeId) (x : A) (lo hi mx : Option A) (h : List Ob) : Option A :=
  match τ t with
  | some { desc := .array n e, .. } =>
    match τ e, bnd n lo hi mx with
    | some ei, some (l, hh) =>
      match x with
      | .ptr i off =>
        match h[i]? with
        | some (.cells xs) => if mx.isNone && l < n && n ≤ maxLen && off + n * ei.size ≤ xs.length then some (.sl i (off + l * ei.size) (hh - l) ei.size) else none
        | some (.row xs) => if mx.isNone && l < n && n ≤ maxLen && off + n * ei.size ≤ xs.length then some (.sl i (off + l * ei.size) (hh - l) ei.size) else none
        | _ => none
      | _ => none
    | _, _ => none
  | some { desc := .string, .. } =>
    match x with
    | .v (.string s) => if mx.isSome then none else (bnd s.size lo hi none).map fun (l, hh) => .v (.string (s.extract l hh))
    | _ => none
  | some { desc := .slice e, .. } =>
    match τ e, x with
    | some ei, .sl i off n sz => (bnd n lo hi mx).bind fun (l, hh) => if sz = ei.size then some (.sl i (off + l * sz) (hh - l) sz) else none
    | some ei, .lst n cs => (bnd n lo hi mx).map fun (l, hh) => .lst (hh - l) ((cs.drop (l * ei.size)).take ((hh - l) * ei.size))
    | some _, .v (.slice none 0 0) => (bnd 0 lo hi mx).map fun _ => x
    | _, _ => none
  | _ => none

def evMakeSlice (τ : Tab) (t : TypeId) (len cap : A) (h : List Ob) : Option (A × List Ob) :=
  match τ t, int? len, int? cap with
  | some { desc := .slice e, .. }, some (_, l), some (_, c) =>
    match τ e with
    | some ei =>
      if 0 ≤ l && l ≤ c && c * ei.bytes ≤ 140737488355328 && c ≤ 140737488355328 && 0 < ei.size && ei.zero.length = ei.size && (ei.zero.map A.v).all flat then
        some (.sl h.length 0 l.toNat ei.size, h ++ [.row (rep (ei.zero.map .v) c.toNat)])
      else none
    | none => none
  | _, _, _ => none

def wr (k : IntKind) (n : Int) : A := .v (.int k (k.wrap n))

def evBin (op : BinOp) (x y : A) : Option A :=
  match x, y with
  | .v (.int k a), .v (.int k' b) =>
    match op with
    | .shl => if b < 0 then none else some (wr k (a * 2 ^ min b.toNat k.bits))
    | .shr => if b < 0 then none else some (.v (.int k (a.fdiv (2 ^ min b.toNat k.bits))))
    | _ =>
      if k = k' then
        match op with
        | .add => some (wr k (a + b))
        | .sub => some (wr k (a - b))
        | .mul => some (wr k (a * b))
        | .quo => if b = 0 then none else some (wr k (a.tdiv b))
        | .rem => if b = 0 then none else some (.v (.int k (a.tmod b)))
        | .and => some (.v (.int k (bits .and k a b)))
        | .or => some (.v (.int k (bits .or k a b)))
        | .xor => some (.v (.int k (bits .xor k a b)))
        | .andNot => some (.v (.int k (bits .andNot k a b)))
        | .eql => some (.v (.bool (a == b)))
        | .neq => some (.v (.bool (a != b)))
        | .lss => some (.v (.bool (a < b)))
        | .leq => some (.v (.bool (a ≤ b)))
        | .gtr => some (.v (.bool (a > b)))
        | .geq => some (.v (.bool (a ≥ b)))
        | _ => none
      else none
  | .v (.string a), .v (.string b) =>
    match op with
    | .eql => some (.v (.bool (a.toList == b.toList)))
    | .neq => some (.v (.bool (!(a.toList == b.toList))))
    | .add => if a.size + b.size ≤ 9223372036854775807 then some (.v (.string (a ++ b))) else none
    | _ => none
  | _, _ => none

/-- A part of a struct's or array's value. -/
def partA (τ : Tab) (t : TypeId) (xs : List A) (off : Nat) : Option A :=
  match τ t with
  | some i => if off + i.size ≤ xs.length then ofCells i.desc.agg ((xs.drop off).take i.size) else none
  | none => none

def eqParts (f : TypeId → A → A → Option Bool) (τ : Tab) (xs ys : List A) : List (Nat × TypeId) → Option Bool
  | [] => some true
  | (off, t) :: r =>
    match partA τ t xs off, partA τ t ys off with
    | some a, some b => match f t a b with | some true => eqParts f τ xs ys r | some false => some false | none => none
    | _, _ => none

/-- Are two alike: part by part. -/
def evEqT (τ : Tab) : Nat → TypeId → A → A → Option Bool
  | 0, _, _, _ => none
  | n + 1, t, x, y =>
    match τ t with
    | none => none
    | some i =>
      if i.eqs then
        match i.desc, x, y with
        | .int _, .v (.int k a), .v (.int k' b) => if k = k' then some (a == b) else none
        | .bool, .v (.bool a), .v (.bool b) => some (a == b)
        | .string, .v (.string a), .v (.string b) => some (a.toList == b.toList)
        | .struct fs, .agg xs, .agg ys => eqParts (evEqT τ n) τ xs ys fs
        | .array len e, .agg xs, .agg ys =>
          match τ e with
          | some ei => eqParts (evEqT τ n) τ xs ys ((List.range len).map fun i => (i * ei.size, e))
          | none => none
        | _, _, _ => none
      else none

/-- Are two alike: what is asked by their type. -/
def evEq (τ : Tab) (t : TypeId) (x y : A) : Option Bool :=
  match τ t with
  | none => none
  | some i =>
    match i.desc, x, y with
    | .pointer _, .v (.pointer none), .v (.pointer none) => some true
    | .pointer _, .v (.pointer none), .ptr .. | .pointer _, .v (.pointer none), .fp .. | .pointer _, .ptr .., .v (.pointer none) | .pointer _, .fp .., .v (.pointer none) => some false
    | .slice _, .v (.slice none 0 0), .v (.slice none 0 0) => some true
    | .slice _, .v (.slice none 0 0), .sl .. | .slice _, .sl .., .v (.slice none 0 0) => some false
    | .slice _, .v (.slice none 0 0), .lst n _ | .slice _, .lst n _, .v (.slice none 0 0) => if n = 0 then none else some false
    | .map .., .v (.map none), .v (.map none) => some true
    | .map .., .v (.map none), .mp .. | .map .., .mp .., .v (.map none) => some false
    | .bool, .v (.bool a), .v (.bool b) => some (a == b)
    | .struct _, .agg _, .agg _ => evEqT τ 10 t x y
    | .array .., .agg _, .agg _ => evEqT τ 10 t x y
    | _, _, _ => none

def evEqOp (τ : Tab) (op : BinOp) (t : TypeId) (x y : A) : Option A :=
  match op with
  | .eql => (evEq τ t x y).map fun b => .v (.bool b)
  | .neq => (evEq τ t x y).map fun b => .v (.bool !b)
  | _ => none

def evUn (op : UnOp) (x : A) : Option A :=
  match op, x with
  | .not, .v (.bool b) => some (.v (.bool !b))
  | .neg, .v (.int k n) => some (wr k (0 - n))
  | .xor, .v (.int k n) => some (.v (.int k (bits .xor k (if k.signed then -1 else k.max) n)))
  | _, _ => none

def isByte : A → Bool
  | .v (.int .u8 _) => true
  | _ => false
def byteVal : A → UInt8
  | .v (.int .u8 n) => UInt8.ofNat n.toNat
  | _ => 0
def byteA (b : UInt8) : A := .v (.int .u8 b.toNat)

/-- A slice's cells, and how many elements it has. -/
def sliceCells (h : List Ob) (sz : Nat) (x : A) : Option (Nat × List A) :=
  match x with
  | .v (.slice none 0 0) => some (0, [])
  | .lst n cs => if cs.length = n * sz then some (n, cs) else none
  | .sl i off n s => if s = sz then (getCells h (.ptr i off) (n * sz)).map fun cs => (n, cs) else none
  | _ => none

def evConvert (τ : Tab) (src dst : TypeId) (x : A) (h : List Ob) : Option (A × List Ob) :=
  match τ src, τ dst with
  | some s, some d =>
    match s.desc, d.desc with
    | .int _, .int k => (int? x).map fun (_, n) => (wr k n, h)
    | .string, .string => match x with | .v (.string s) => some (.v (.string s), h) | _ => none
    | .string, .slice e =>
      match τ e, x with
      | some { desc := .int .u8, size := 1, .. }, .v (.string s) => if s.size ≤ 140737488355328 then some (.sl h.length 0 s.size 1, h ++ [.row (s.data.toList.map byteA)]) else none
      | _, _ => none
    | .slice e, .string =>
      match τ e with
      | some { desc := .int .u8, size := 1, .. } => (sliceCells h 1 x).bind fun (_, cs) => if cs.all isByte then some (.v (.string ⟨(cs.map byteVal).toArray⟩), h) else none
      | _ => none
    | .slice e, .slice _ =>
      if src = dst then
        match τ e, x with
        | some { desc := .int .u8, size := 1, .. }, .sl i _ n _ => if 0 < n then (match h[i]? with | some (.row _) => some (x, h) | _ => none) else none
        | _, _ => none
      else none
    | _, _ => none
  | _, _ => none

def evToArr (τ : Tab) (arr : TypeId) (x : A) : Option A :=
  match τ arr with
  | some { desc := .array n e, .. } =>
    match τ e, x with
    | some ei, .sl i off m sz => if n ≤ m && 0 < n && sz = ei.size then some (.ptr i off) else none
    | some _, .lst m cs => if n ≤ m && 0 < n then some (.fp cs) else none
    | _, _ => none
  | _ => none

def sliceElem (τ : Tab) (t : TypeId) : Option Ty :=
  match τ t with
  | some { desc := .slice e, .. } => τ e
  | _ => none

/-- What is appended, or copied: a slice's elements, or a string's bytes. -/
def source (d : D) (h : List Ob) (sz : Nat) (x : A) : Option (Nat × List A) :=
  match d, x with
  | .string, .v (.string s) => if sz = 1 then some (s.size, s.data.toList.map byteA) else none
  | .slice _, x => sliceCells h sz x
  | _, _ => none

mutual
def idsA : A → List Nat
  | .agg xs => idsL xs
  | .tup xs => idsL xs
  | .fn _ xs => idsL xs
  | .ptr i _ => [i]
  | .sl i _ _ _ => [i]
  | .mp i => [i]
  | _ => []
def idsL : List A → List Nat
  | [] => []
  | x :: xs => idsA x ++ idsL xs
end
def idsOb : Ob → List Nat
  | .cells xs => idsL xs
  | .map es => idsL (es.map (·.1)) ++ idsL (es.map (·.2))
  | _ => []

/-- Two or more cells of the memory hold an object's number. -/
def shared (h : List Ob) (i : Nat) : Bool := 1 < ((h.flatMap idsOb).filter (fun j => j == i)).length

def evAppend (τ : Tab) (argTypes : List TypeId) (s x : A) (h : List Ob) : Option (A × List Ob) :=
  match argTypes with
  | [t, t'] =>
    match sliceElem τ t, τ t' with
    | some ei, some ti =>
      match source ti.desc h ei.size x with
      | some (m, news0) =>
        match freezeAll h news0 with
        | some (news, h) =>
          match s with
          | .v (.slice none 0 0) =>
            if m * ei.bytes ≤ 140737488355328 && m ≤ 140737488355328 && 0 < ei.size && ei.zero.length = ei.size then
              if m = 0 then some (s, h) else some (.sl h.length 0 m ei.size, h ++ [.row news])
            else none
          | .sl i off n sz =>
            match h[i]? with
            | some (.row xs) =>
              if off + n * sz ≤ xs.length && (n + m) * ei.bytes ≤ 140737488355328 && n + m ≤ 140737488355328 && sz = ei.size && 0 < sz && ei.zero.length = ei.size then
                if off + n * sz = xs.length ∧ shared h i = true then some (.sl h.length 0 (n + m) sz, h.set i (.ro xs) ++ [.ro (xs.drop off ++ news)])
                else some (.sl h.length 0 (n + m) sz, h.set i .dead ++ [.row ((xs.drop off).take (n * sz) ++ news)])
              else none
            | _ => none
          | _ => none
        | none => none
      | none => none
    | _, _ => none
  | _ => none

def evCopy (τ : Tab) (argTypes : List TypeId) (s x : A) (h : List Ob) : Option (A × List Ob) :=
  match argTypes with
  | [t, t'] =>
    match sliceElem τ t, τ t' with
    | some ei, some ti =>
      match source ti.desc h ei.size x, s with
      | some (m, news), .sl i off n sz =>
        if sz = ei.size && 0 < sz then (putCells h (.ptr i off) (news.take (min m n * sz))).map fun h => (.v (.int .i64 (min m n : Nat)), h) else none
      | _, _ => none
    | _, _ => none
  | _ => none

def evLen (τ : Tab) (t : TypeId) (x : A) (h : List Ob) : Option A :=
  match τ t with
  | some i =>
    match i.desc, x with
    | .string, .v (.string s) => some (.v (.int .i64 s.size))
    | .array n _, _ => some (.v (.int .i64 n))
    | .slice _, .v (.slice none 0 0) => some (.v (.int .i64 0))
    | .slice _, .lst n _ => some (.v (.int .i64 n))
    | .slice _, .sl _ _ n _ => some (.v (.int .i64 n))
    | .map .., .v (.map none) => some (.v (.int .i64 0))
    | .map .., .mp i => match h[i]? with | some (.map es) => some (.v (.int .i64 es.length)) | _ => none
    | _, _ => none
  | none => none

def evMin2 (less : Bool) (x y : A) : Option A :=
  match x, y with
  | .v (.int k a), .v (.int _ b) => some (.v (.int k (if less then (if b < a then b else a) else (if b > a then b else a))))
  | _, _ => none

def evFold (less : Bool) : A → List A → Option A
  | x, [] => some x
  | x, y :: r => (evMin2 less x y).bind fun z => evFold less z r

/-- What functions answer. -/
abbrev Fns := FuncId → List A → List Ob → Option (A × List Ob)

def evOp (τ : Tab) (F : Fns) (o : Oper) (t : List A) (h : List Ob) : Option (A × List Ob) :=
  let ρ := ofOp t
  match o.op with
  | .move x | .assign x => some (ρ x, h)
  | .pick c a b => match ρ c with | .v (.bool x) => some (if x then ρ a else ρ b, h) | _ => none
  | .alloc e => evAlloc τ e h
  | .box e x => evBox τ e (ρ x) h
  | .build t parts => (evBuild τ t (parts.toList.map fun (i, x) => (i, ρ x))).map (·, h)
  | .buildSlice t len parts => evBuildSlice τ t len (parts.toList.map fun (i, x) => (i, ρ x)) h
  | .load t a => (evLoad τ t (ρ a) h).map (·, h)
  | .store t a x => (evStore τ t (ρ a) (ρ x) h).map (.v undef, ·)
  | .nilCheck x => match ρ x with | .ptr i off => some (.ptr i off, h) | .fp cs => some (.fp cs, h) | _ => none
  | .binOp op t x y _ => match evBin op (ρ x) (ρ y) with | some z => some (z, h) | none => (evEqOp τ op t (ρ x) (ρ y)).map (·, h)
  | .unOp op _ x => (evUn op (ρ x)).map (·, h)
  | .convert s d x => evConvert τ s d (ρ x) h
  | .sliceToArrayPointer arr x => (evToArr τ arr (ρ x)).map (·, h)
  | .makeFunc fn first caps =>
    match fn with
    | .func f =>
      if first.size = 0 then (if f < 1000000 then some (.fn f (caps.toList.map ρ), h) else none)
      else if caps.size = 0 then some (.fn (f + 1000000) (first.toList.map ρ), h) else none
    | _ => none
  | .makeSlice t l c => evMakeSlice τ t (ρ l) (ρ c) h
  | .slice t x lo hi mx => (evSlice τ t (ρ x) (lo.map ρ) (hi.map ρ) (mx.map ρ) h).map (·, h)
  | .fieldAddr s x f => (evFieldAddr τ s (ρ x) f).map (·, h)
  | .field s x f => (evField τ s (ρ x) f).map (·, h)
  | .indexAddr t x ix => (evIndexAddr τ t (ρ x) (ρ ix)).map (·, h)
  | .index t x ix => (evIndex τ t (ρ x) (ρ ix)).map (·, h)
  | .extract x ix => match ρ x with | .tup xs => (xs[ix]?).map (·, h) | _ => none
  | .call c =>
    match c.callee with
    | .value f => match ρ f with | .fn g caps => (if g < 1000000 then F g (c.args.toList.map ρ ++ caps) h else F (g - 1000000) (caps ++ c.args.toList.map ρ) h) | _ => none
    | .builtin .len => match c.args.toList, c.argTypes.toList with | [x], [t] => (evLen τ t (ρ x) h).map (·, h) | _, _ => none
    | .builtin .append => match c.args.toList with | [s, x] => evAppend τ c.argTypes.toList (ρ s) (ρ x) h | _ => none
    | .builtin .copy => match c.args.toList with | [s, x] => evCopy τ c.argTypes.toList (ρ s) (ρ x) h | _ => none
    | .builtin .min => match c.args.toList with | x :: r => (evFold true (ρ x) (r.map ρ)).map (·, h) | _ => none
    | .builtin .max => match c.args.toList with | x :: r => (evFold false (ρ x) (r.map ρ)).map (·, h) | _ => none
    | _ => none
  | _ => none

def yields? (all : List Oper) (t : List A) (j : Nat) : Option (Option Bool) :=
  match all[j]? with
  | some o =>
    match o.dst with
    | some d => match t[d]? with | some (.v (.bool b)) => some (some b) | some (.v _) => some none | _ => none
    | none => none
  | none => none

def wanted? (all : List Oper) (t : List A) (o : Oper) : Option Bool :=
  match o.guard with
  | none => some true
  | some (j, want) => (yields? all t j).map fun y => y == some want

def evOps (τ : Tab) (F : Fns) (all : List Oper) : List Oper → St → Option St
  | [], s => some s
  | o :: rest, s =>
    match wanted? all s.t o with
    | some true => match evOp τ F o s.t s.h with | some (x, h') => evOps τ F all rest ⟨putT s.t o.dst x, h'⟩ | none => none
    | some false => evOps τ F all rest ⟨putT s.t o.dst (.v undef), s.h⟩
    | none => none

end Go.Flat
