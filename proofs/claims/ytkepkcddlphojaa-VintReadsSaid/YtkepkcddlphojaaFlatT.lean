/-
  The tables of the program: its types, its functions, as they are gone through.
-/
import Derived.Test.YtkepkcddlphojaaFlatO
import Derived.Test.YtkepkcddlphojaaChecked
namespace Go.Flat
open Go.Proofs
set_option maxRecDepth 100000

@[irreducible] noncomputable def tt : Tab := tab Try.prog
@[irreducible] noncomputable def tb : FuncId → Option (Func × Code) := tblOf Try.prog
def bodyOf (f : Func) : Code := f.body.getD .skip
theorem mixed : Try.prog.follows .mixedOrders = true := by kernel_rfl
theorem evs_sound {B : Fns} (hB : Sound Try.prog B) (K : FuncId → Nat → List Nat) (n d : Nat) : Sound Try.prog (evFn tt tb B K n d) := by rw [tt, tb]; exact evFn_sound mixed hB K n d
theorem evs_sound_cut {B : Fns} (hB : Sound Try.prog B) (L : List FuncId) (K : FuncId → Nat → List Nat) (n d : Nat) : Sound Try.prog (evFn tt (cut L tb) B K n d) := by rw [tt, tb]; exact evFn_sound' mixed hB (fun _ _ h => cut_le h) K n d
attribute [simp] bodyOf

@[simp] theorem tt0 : tt 0 = some ⟨1, 0, [Value.tuple { toList := [] }], D.other, true⟩ := by kernel_rfl
@[simp] theorem tt1 : tt 1 = some ⟨1, 8, [Value.nilFunc], D.other, true⟩ := by kernel_rfl
@[simp] theorem tt2 : tt 2 = some ⟨1, 8, [Value.int IntKind.i64 (0)], D.int IntKind.i64, true⟩ := by kernel_rfl
@[simp] theorem tt3 : tt 3 = some ⟨1, 8, [Value.int IntKind.i64 (0)], D.int IntKind.i64, true⟩ := by kernel_rfl
@[simp] theorem tt4 : tt 4 = some ⟨1, 1, [Value.bool false], D.bool, true⟩ := by kernel_rfl
@[simp] theorem tt5 : tt 5 = some ⟨1, 1, [Value.int IntKind.u8 (0)], D.int IntKind.u8, true⟩ := by kernel_rfl
@[simp] theorem tt6 : tt 6 = some ⟨1, 1, [Value.int IntKind.u8 (0)], D.int IntKind.u8, true⟩ := by kernel_rfl
@[simp] theorem tt7 : tt 7 = some ⟨4, 24, [Value.int IntKind.i64 (0), Value.int IntKind.i64 (0), Value.bool false, Value.int IntKind.u8 (0)], D.struct [(0, 2), (1, 3), (2, 4), (3, 6)], true⟩ := by kernel_rfl
@[simp] theorem tt8 : tt 8 = some ⟨4, 24, [Value.int IntKind.i64 (0), Value.int IntKind.i64 (0), Value.bool false, Value.int IntKind.u8 (0)], D.struct [(0, 2), (1, 3), (2, 4), (3, 6)], true⟩ := by kernel_rfl
@[simp] theorem tt9 : tt 9 = some ⟨1, 16, [Value.string { data := { toList := [] } }], D.string, true⟩ := by kernel_rfl
@[simp] theorem tt10 : tt 10 = some ⟨1, 16, [Value.string { data := { toList := [] } }], D.string, true⟩ := by kernel_rfl
@[simp] theorem tt11 : tt 11 = some ⟨1, 16, [Value.string { data := { toList := [] } }], D.string, true⟩ := by kernel_rfl
@[simp] theorem tt12 : tt 12 = some ⟨1, 8, [Value.int IntKind.u64 (0)], D.int IntKind.u64, true⟩ := by kernel_rfl
@[simp] theorem tt13 : tt 13 = some ⟨2, 24, [Value.string { data := { toList := [] } }, Value.int IntKind.u64 (0)], D.struct [(0, 9), (1, 12)], false⟩ := by kernel_rfl
@[simp] theorem tt14 : tt 14 = some ⟨2, 24, [Value.string { data := { toList := [] } }, Value.int IntKind.u64 (0)], D.struct [(0, 9), (1, 12)], false⟩ := by kernel_rfl
@[simp] theorem tt15 : tt 15 = some ⟨1, 8, [Value.pointer none], D.pointer 174, true⟩ := by kernel_rfl
@[simp] theorem tt16 : tt 16 = some ⟨1, 8, [Value.pointer none], D.pointer 177, true⟩ := by kernel_rfl
@[simp] theorem tt17 : tt 17 = some ⟨1, 8, [Value.pointer none], D.pointer 185, true⟩ := by kernel_rfl
@[simp] theorem tt18 : tt 18 = some ⟨1, 8, [Value.pointer none], D.struct [(0, 17)], false⟩ := by kernel_rfl
@[simp] theorem tt19 : tt 19 = some ⟨1, 8, [Value.pointer none], D.struct [(0, 17)], false⟩ := by kernel_rfl
@[simp] theorem tt20 : tt 20 = some ⟨1, 16, [Value.nilIface], D.other, true⟩ := by kernel_rfl
@[simp] theorem tt21 : tt 21 = some ⟨1, 4, [Value.int IntKind.i32 (0)], D.int IntKind.i32, true⟩ := by kernel_rfl
@[simp] theorem tt22 : tt 22 = some ⟨1, 24, [Value.slice none 0 0], D.slice 27, true⟩ := by kernel_rfl
@[simp] theorem tt23 : tt 23 = some ⟨1, 8, [Value.nilFunc], D.other, true⟩ := by kernel_rfl
@[simp] theorem tt24 : tt 24 = some ⟨1, 8, [Value.pointer none], D.pointer 103, true⟩ := by kernel_rfl
@[simp] theorem tt25 : tt 25 = some ⟨1, 8, [Value.nilFunc], D.other, true⟩ := by kernel_rfl
@[simp] theorem tt26 : tt 26 = some ⟨1, 8, [Value.int IntKind.u64 (0)], D.int IntKind.u64, true⟩ := by kernel_rfl
@[simp] theorem tt27 : tt 27 = some ⟨1, 2, [Value.int IntKind.u16 (0)], D.int IntKind.u16, true⟩ := by kernel_rfl
@[simp] theorem tt28 : tt 28 = some ⟨1, 8, [Value.nilFunc], D.other, true⟩ := by kernel_rfl
@[simp] theorem tt29 : tt 29 = some ⟨1, 8, [Value.nilFunc], D.other, true⟩ := by kernel_rfl
@[simp] theorem tt30 : tt 30 = some ⟨1, 8, [Value.nilFunc], D.other, true⟩ := by kernel_rfl
@[simp] theorem tt31 : tt 31 = some ⟨1, 24, [Value.slice none 0 0], D.slice 5, true⟩ := by kernel_rfl
@[simp] theorem tt32 : tt 32 = some ⟨1, 8, [Value.nilFunc], D.other, true⟩ := by kernel_rfl
@[simp] theorem tt33 : tt 33 = some ⟨1, 8, [Value.int IntKind.i64 (0)], D.int IntKind.i64, true⟩ := by kernel_rfl
@[simp] theorem tt34 : tt 34 = some ⟨1, 0, [Value.tuple { toList := [Value.slice none 0 0, Value.int IntKind.i64 (0)] }], D.other, true⟩ := by kernel_rfl
@[simp] theorem tt35 : tt 35 = some ⟨1, 8, [Value.nilFunc], D.other, true⟩ := by kernel_rfl
@[simp] theorem tt36 : tt 36 = some ⟨1, 8, [Value.nilFunc], D.other, true⟩ := by kernel_rfl
@[simp] theorem tt37 : tt 37 = some ⟨1, 24, [Value.slice none 0 0], D.slice 3, true⟩ := by kernel_rfl
@[simp] theorem tt38 : tt 38 = some ⟨1, 8, [Value.nilFunc], D.other, true⟩ := by kernel_rfl
@[simp] theorem tt39 : tt 39 = some ⟨1, 8, [Value.nilFunc], D.other, true⟩ := by kernel_rfl
@[simp] theorem tt40 : tt 40 = some ⟨1, 0, [Value.tuple { toList := [Value.int IntKind.u64 (0), Value.int IntKind.i64 (0), Value.int IntKind.i64 (0)] }], D.other, true⟩ := by kernel_rfl
@[simp] theorem tt41 : tt 41 = some ⟨1, 8, [Value.nilFunc], D.other, true⟩ := by kernel_rfl
@[simp] theorem tt42 : tt 42 = some ⟨1, 8, [Value.nilFunc], D.other, true⟩ := by kernel_rfl
@[simp] theorem tt43 : tt 43 = some ⟨1, 0, [Value.tuple { toList := [Value.int IntKind.u64 (0), Value.int IntKind.i64 (0)] }], D.other, true⟩ := by kernel_rfl
@[simp] theorem tt44 : tt 44 = some ⟨1, 8, [Value.nilFunc], D.other, true⟩ := by kernel_rfl
@[simp] theorem tt45 : tt 45 = some ⟨1, 8, [Value.nilFunc], D.other, true⟩ := by kernel_rfl
@[simp] theorem tt46 : tt 46 = some ⟨1, 24, [Value.slice none 0 0], D.slice 26, true⟩ := by kernel_rfl
@[simp] theorem tt47 : tt 47 = some ⟨1, 8, [Value.pointer none], D.pointer 49, true⟩ := by kernel_rfl
@[simp] theorem tt48 : tt 48 = some ⟨2, 32, [Value.slice none 0 0, Value.int IntKind.i64 (0)], D.struct [(0, 31), (1, 33)], true⟩ := by kernel_rfl
@[simp] theorem tt49 : tt 49 = some ⟨2, 32, [Value.slice none 0 0, Value.int IntKind.i64 (0)], D.struct [(0, 31), (1, 33)], true⟩ := by kernel_rfl
@[simp] theorem tt50 : tt 50 = some ⟨1, 24, [Value.slice none 0 0], D.slice 46, true⟩ := by kernel_rfl
@[simp] theorem tt51 : tt 51 = some ⟨1, 8, [Value.nilFunc], D.other, true⟩ := by kernel_rfl
@[simp] theorem tt52 : tt 52 = some ⟨1, 8, [Value.nilFunc], D.other, true⟩ := by kernel_rfl
@[simp] theorem tt53 : tt 53 = some ⟨1, 8, [Value.nilFunc], D.other, true⟩ := by kernel_rfl
@[simp] theorem tt54 : tt 54 = some ⟨1, 8, [Value.nilFunc], D.other, true⟩ := by kernel_rfl
@[simp] theorem tt55 : tt 55 = some ⟨1, 8, [Value.nilFunc], D.other, true⟩ := by kernel_rfl
@[simp] theorem tt56 : tt 56 = some ⟨8, 8, [Value.int IntKind.u8 (0), Value.int IntKind.u8 (0), Value.int IntKind.u8 (0), Value.int IntKind.u8 (0), Value.int IntKind.u8 (0), Value.int IntKind.u8 (0), Value.int IntKind.u8 (0), Value.int IntKind.u8 (0)], D.array 8 5, true⟩ := by kernel_rfl
@[simp] theorem tt57 : tt 57 = some ⟨1, 8, [Value.nilFunc], D.other, true⟩ := by kernel_rfl
@[simp] theorem tt58 : tt 58 = some ⟨1, 8, [Value.nilFunc], D.other, true⟩ := by kernel_rfl
@[simp] theorem tt59 : tt 59 = some ⟨1, 0, [Value.tuple { toList := [Value.agg { toList := [Value.int IntKind.u8 (0), Value.int IntKind.u8 (0), Value.int IntKind.u8 (0), Value.int IntKind.u8 (0), Value.int IntKind.u8 (0), Value.int IntKind.u8 (0), Value.int IntKind.u8 (0), Value.int IntKind.u8 (0)] }, Value.bool false] }], D.other, true⟩ := by kernel_rfl
@[simp] theorem tt60 : tt 60 = some ⟨1, 8, [Value.nilFunc], D.other, true⟩ := by kernel_rfl
@[simp] theorem tt61 : tt 61 = some ⟨1, 8, [Value.nilFunc], D.other, true⟩ := by kernel_rfl
@[simp] theorem tt62 : tt 62 = some ⟨1, 8, [Value.nilFunc], D.other, true⟩ := by kernel_rfl
@[simp] theorem tt63 : tt 63 = some ⟨1, 8, [Value.nilFunc], D.other, true⟩ := by kernel_rfl
@[simp] theorem tt64 : tt 64 = some ⟨10, 96, [Value.int IntKind.u64 (0), Value.int IntKind.u64 (0), Value.int IntKind.u64 (0), Value.int IntKind.u64 (0), Value.int IntKind.u64 (0), Value.int IntKind.u64 (0), Value.int IntKind.u64 (0), Value.int IntKind.u64 (0), Value.int IntKind.u64 (0), Value.slice none 0 0], D.struct [(0, 26), (1, 26), (2, 26), (3, 26), (4, 26), (5, 26), (6, 26), (7, 26), (8, 26), (9, 31)], true⟩ := by kernel_rfl
@[simp] theorem tt65 : tt 65 = some ⟨10, 96, [Value.int IntKind.u64 (0), Value.int IntKind.u64 (0), Value.int IntKind.u64 (0), Value.int IntKind.u64 (0), Value.int IntKind.u64 (0), Value.int IntKind.u64 (0), Value.int IntKind.u64 (0), Value.int IntKind.u64 (0), Value.int IntKind.u64 (0), Value.slice none 0 0], D.struct [(0, 26), (1, 26), (2, 26), (3, 26), (4, 26), (5, 26), (6, 26), (7, 26), (8, 26), (9, 31)], true⟩ := by kernel_rfl
@[simp] theorem tt66 : tt 66 = some ⟨1, 8, [Value.nilFunc], D.other, true⟩ := by kernel_rfl
@[simp] theorem tt67 : tt 67 = some ⟨9, 72, [Value.int IntKind.u64 (0), Value.int IntKind.u64 (0), Value.int IntKind.u64 (0), Value.int IntKind.u64 (0), Value.int IntKind.u64 (0), Value.int IntKind.u64 (0), Value.int IntKind.u64 (0), Value.int IntKind.u64 (0), Value.int IntKind.u64 (0)], D.array 9 26, true⟩ := by kernel_rfl
@[simp] theorem tt68 : tt 68 = some ⟨1, 8, [Value.nilFunc], D.other, true⟩ := by kernel_rfl
@[simp] theorem tt69 : tt 69 = some ⟨1, 8, [Value.nilFunc], D.other, true⟩ := by kernel_rfl
@[simp] theorem tt70 : tt 70 = some ⟨1, 8, [Value.pointer none], D.pointer 110, true⟩ := by kernel_rfl
@[simp] theorem tt71 : tt 71 = some ⟨1, 8, [Value.nilFunc], D.other, true⟩ := by kernel_rfl
@[simp] theorem tt72 : tt 72 = some ⟨1, 8, [Value.nilFunc], D.other, true⟩ := by kernel_rfl
@[simp] theorem tt73 : tt 73 = some ⟨1, 8, [Value.nilFunc], D.other, true⟩ := by kernel_rfl
@[simp] theorem tt74 : tt 74 = some ⟨1, 8, [Value.nilFunc], D.other, true⟩ := by kernel_rfl
@[simp] theorem tt75 : tt 75 = some ⟨1, 8, [Value.nilFunc], D.other, true⟩ := by kernel_rfl
@[simp] theorem tt76 : tt 76 = some ⟨1, 8, [Value.nilFunc], D.other, true⟩ := by kernel_rfl
@[simp] theorem tt77 : tt 77 = some ⟨1, 8, [Value.nilFunc], D.other, true⟩ := by kernel_rfl
@[simp] theorem tt78 : tt 78 = some ⟨1, 8, [Value.nilFunc], D.other, true⟩ := by kernel_rfl
@[simp] theorem tt79 : tt 79 = some ⟨1, 24, [Value.slice none 0 0], D.slice 82, true⟩ := by kernel_rfl
@[simp] theorem tt80 : tt 80 = some ⟨1, 1, [Value.int IntKind.u8 (0)], D.int IntKind.u8, true⟩ := by kernel_rfl
@[simp] theorem tt81 : tt 81 = some ⟨4, 64, [Value.int IntKind.u8 (0), Value.int IntKind.u64 (0), Value.slice none 0 0, Value.slice none 0 0], D.struct [(0, 80), (1, 26), (2, 46), (3, 31)], true⟩ := by kernel_rfl
@[simp] theorem tt82 : tt 82 = some ⟨4, 64, [Value.int IntKind.u8 (0), Value.int IntKind.u64 (0), Value.slice none 0 0, Value.slice none 0 0], D.struct [(0, 80), (1, 26), (2, 46), (3, 31)], true⟩ := by kernel_rfl
@[simp] theorem tt83 : tt 83 = some ⟨1, 8, [Value.nilFunc], D.other, true⟩ := by kernel_rfl
@[simp] theorem tt84 : tt 84 = some ⟨1, 8, [Value.nilFunc], D.other, true⟩ := by kernel_rfl
@[simp] theorem tt85 : tt 85 = some ⟨1, 8, [Value.nilFunc], D.other, true⟩ := by kernel_rfl
@[simp] theorem tt86 : tt 86 = some ⟨1, 8, [Value.nilFunc], D.other, true⟩ := by kernel_rfl
@[simp] theorem tt87 : tt 87 = some ⟨1, 8, [Value.nilFunc], D.other, true⟩ := by kernel_rfl
@[simp] theorem tt88 : tt 88 = some ⟨1, 8, [Value.nilFunc], D.other, true⟩ := by kernel_rfl
@[simp] theorem tt89 : tt 89 = some ⟨1, 8, [Value.pointer none], D.pointer 132, true⟩ := by kernel_rfl
@[simp] theorem tt90 : tt 90 = some ⟨1, 8, [Value.nilFunc], D.other, true⟩ := by kernel_rfl
@[simp] theorem tt91 : tt 91 = some ⟨1, 8, [Value.nilFunc], D.other, true⟩ := by kernel_rfl
@[simp] theorem tt92 : tt 92 = some ⟨32, 32, [Value.int IntKind.u8 (0), Value.int IntKind.u8 (0), Value.int IntKind.u8 (0), Value.int IntKind.u8 (0), Value.int IntKind.u8 (0), Value.int IntKind.u8 (0), Value.int IntKind.u8 (0), Value.int IntKind.u8 (0), Value.int IntKind.u8 (0), Value.int IntKind.u8 (0), Value.int IntKind.u8 (0), Value.int IntKind.u8 (0), Value.int IntKind.u8 (0), Value.int IntKind.u8 (0), Value.int IntKind.u8 (0), Value.int IntKind.u8 (0), Value.int IntKind.u8 (0), Value.int IntKind.u8 (0), Value.int IntKind.u8 (0), Value.int IntKind.u8 (0), Value.int IntKind.u8 (0), Value.int IntKind.u8 (0), Value.int IntKind.u8 (0), Value.int IntKind.u8 (0), Value.int IntKind.u8 (0), Value.int IntKind.u8 (0), Value.int IntKind.u8 (0), Value.int IntKind.u8 (0), Value.int IntKind.u8 (0), Value.int IntKind.u8 (0), Value.int IntKind.u8 (0), Value.int IntKind.u8 (0)], D.array 32 5, true⟩ := by kernel_rfl
@[simp] theorem tt93 : tt 93 = some ⟨1, 8, [Value.nilFunc], D.other, true⟩ := by kernel_rfl
@[simp] theorem tt94 : tt 94 = some ⟨1, 24, [Value.slice none 0 0], D.slice 31, true⟩ := by kernel_rfl
@[simp] theorem tt95 : tt 95 = some ⟨1, 8, [Value.nilFunc], D.other, true⟩ := by kernel_rfl
@[simp] theorem tt96 : tt 96 = some ⟨1, 8, [Value.nilFunc], D.other, true⟩ := by kernel_rfl
@[simp] theorem tt97 : tt 97 = some ⟨1, 8, [Value.nilFunc], D.other, true⟩ := by kernel_rfl
@[simp] theorem tt98 : tt 98 = some ⟨1, 8, [Value.nilFunc], D.other, true⟩ := by kernel_rfl
@[simp] theorem tt99 : tt 99 = some ⟨1, 8, [Value.nilFunc], D.other, true⟩ := by kernel_rfl
@[simp] theorem tt100 : tt 100 = some ⟨1, 1, [Value.int IntKind.u8 (0)], D.int IntKind.u8, true⟩ := by kernel_rfl
@[simp] theorem tt101 : tt 101 = some ⟨1, 24, [Value.slice none 0 0], D.slice 56, true⟩ := by kernel_rfl
@[simp] theorem tt102 : tt 102 = some ⟨15, 80, [Value.int IntKind.u64 (0), Value.int IntKind.u8 (0), Value.int IntKind.u64 (0), Value.int IntKind.u64 (0), Value.int IntKind.u8 (0), Value.int IntKind.u8 (0), Value.int IntKind.u8 (0), Value.int IntKind.u8 (0), Value.int IntKind.u8 (0), Value.int IntKind.u8 (0), Value.int IntKind.u8 (0), Value.int IntKind.u8 (0), Value.int IntKind.u64 (0), Value.bool false, Value.slice none 0 0], D.struct [(0, 26), (1, 100), (2, 26), (3, 26), (4, 56), (12, 26), (13, 4), (14, 101)], true⟩ := by kernel_rfl
@[simp] theorem tt103 : tt 103 = some ⟨15, 80, [Value.int IntKind.u64 (0), Value.int IntKind.u8 (0), Value.int IntKind.u64 (0), Value.int IntKind.u64 (0), Value.int IntKind.u8 (0), Value.int IntKind.u8 (0), Value.int IntKind.u8 (0), Value.int IntKind.u8 (0), Value.int IntKind.u8 (0), Value.int IntKind.u8 (0), Value.int IntKind.u8 (0), Value.int IntKind.u8 (0), Value.int IntKind.u64 (0), Value.bool false, Value.slice none 0 0], D.struct [(0, 26), (1, 100), (2, 26), (3, 26), (4, 56), (12, 26), (13, 4), (14, 101)], true⟩ := by kernel_rfl
@[simp] theorem tt104 : tt 104 = some ⟨1, 8, [Value.int IntKind.u64 (0)], D.int IntKind.u64, true⟩ := by kernel_rfl
@[simp] theorem tt105 : tt 105 = some ⟨1, 24, [Value.slice none 0 0], D.slice 109, true⟩ := by kernel_rfl
@[simp] theorem tt106 : tt 106 = some ⟨1, 8, [Value.nilFunc], D.other, true⟩ := by kernel_rfl
@[simp] theorem tt107 : tt 107 = some ⟨1, 8, [Value.pointer none], D.pointer 26, true⟩ := by kernel_rfl
@[simp] theorem tt108 : tt 108 = some ⟨2, 16, [Value.int IntKind.u64 (0), Value.pointer none], D.struct [(0, 26), (1, 107)], true⟩ := by kernel_rfl
@[simp] theorem tt109 : tt 109 = some ⟨2, 16, [Value.int IntKind.u64 (0), Value.pointer none], D.struct [(0, 26), (1, 107)], true⟩ := by kernel_rfl
@[simp] theorem tt110 : tt 110 = some ⟨2, 32, [Value.slice none 0 0, Value.int IntKind.i64 (0)], D.struct [(0, 31), (1, 33)], true⟩ := by kernel_rfl
@[simp] theorem tt111 : tt 111 = some ⟨1, 8, [Value.nilFunc], D.other, true⟩ := by kernel_rfl
@[simp] theorem tt112 : tt 112 = some ⟨1, 24, [Value.slice none 0 0], D.slice 9, true⟩ := by kernel_rfl
@[simp] theorem tt113 : tt 113 = some ⟨3, 48, [Value.string { data := { toList := [] } }, Value.slice none 0 0, Value.bool false], D.struct [(0, 9), (1, 112), (2, 4)], true⟩ := by kernel_rfl
@[simp] theorem tt114 : tt 114 = some ⟨3, 48, [Value.string { data := { toList := [] } }, Value.slice none 0 0, Value.bool false], D.struct [(0, 9), (1, 112), (2, 4)], true⟩ := by kernel_rfl
@[simp] theorem tt115 : tt 115 = some ⟨1, 0, [Value.tuple { toList := [Value.agg { toList := [Value.string { data := { toList := [] } }, Value.slice none 0 0, Value.bool false] }, Value.bool false] }], D.other, true⟩ := by kernel_rfl
@[simp] theorem tt116 : tt 116 = some ⟨1, 8, [Value.nilFunc], D.other, true⟩ := by kernel_rfl
@[simp] theorem tt117 : tt 117 = some ⟨0, 0, [], D.struct [], true⟩ := by kernel_rfl
@[simp] theorem tt118 : tt 118 = some ⟨0, 0, [], D.struct [], true⟩ := by kernel_rfl
@[simp] theorem tt119 : tt 119 = some ⟨0, 0, [], D.struct [], true⟩ := by kernel_rfl
@[simp] theorem tt120 : tt 120 = some ⟨1, 4, [Value.int IntKind.u32 (0)], D.int IntKind.u32, true⟩ := by kernel_rfl
@[simp] theorem tt121 : tt 121 = some ⟨1, 4, [Value.int IntKind.u32 (0)], D.struct [(0, 119), (0, 120)], false⟩ := by kernel_rfl
@[simp] theorem tt122 : tt 122 = some ⟨1, 4, [Value.int IntKind.u32 (0)], D.struct [(0, 119), (0, 120)], false⟩ := by kernel_rfl
@[simp] theorem tt123 : tt 123 = some ⟨2, 8, [Value.int IntKind.i32 (0), Value.int IntKind.u32 (0)], D.struct [(0, 21), (1, 120)], true⟩ := by kernel_rfl
@[simp] theorem tt124 : tt 124 = some ⟨2, 8, [Value.int IntKind.i32 (0), Value.int IntKind.u32 (0)], D.struct [(0, 21), (1, 120)], true⟩ := by kernel_rfl
@[simp] theorem tt125 : tt 125 = some ⟨2, 8, [Value.int IntKind.i32 (0), Value.int IntKind.u32 (0)], D.struct [(0, 118), (0, 124)], false⟩ := by kernel_rfl
@[simp] theorem tt126 : tt 126 = some ⟨2, 8, [Value.int IntKind.i32 (0), Value.int IntKind.u32 (0)], D.struct [(0, 118), (0, 124)], false⟩ := by kernel_rfl
@[simp] theorem tt127 : tt 127 = some ⟨3, 12, [Value.int IntKind.u32 (0), Value.int IntKind.i32 (0), Value.int IntKind.u32 (0)], D.struct [(0, 118), (0, 122), (1, 126)], false⟩ := by kernel_rfl
@[simp] theorem tt128 : tt 128 = some ⟨3, 12, [Value.int IntKind.u32 (0), Value.int IntKind.i32 (0), Value.int IntKind.u32 (0)], D.struct [(0, 118), (0, 122), (1, 126)], false⟩ := by kernel_rfl
@[simp] theorem tt129 : tt 129 = some ⟨8, 32, [Value.int IntKind.u32 (0), Value.int IntKind.u32 (0), Value.int IntKind.u32 (0), Value.int IntKind.u32 (0), Value.int IntKind.u32 (0), Value.int IntKind.u32 (0), Value.int IntKind.u32 (0), Value.int IntKind.u32 (0)], D.array 8 120, true⟩ := by kernel_rfl
@[simp] theorem tt130 : tt 130 = some ⟨64, 256, [Value.int IntKind.u32 (0), Value.int IntKind.u32 (0), Value.int IntKind.u32 (0), Value.int IntKind.u32 (0), Value.int IntKind.u32 (0), Value.int IntKind.u32 (0), Value.int IntKind.u32 (0), Value.int IntKind.u32 (0), Value.int IntKind.u32 (0), Value.int IntKind.u32 (0), Value.int IntKind.u32 (0), Value.int IntKind.u32 (0), Value.int IntKind.u32 (0), Value.int IntKind.u32 (0), Value.int IntKind.u32 (0), Value.int IntKind.u32 (0), Value.int IntKind.u32 (0), Value.int IntKind.u32 (0), Value.int IntKind.u32 (0), Value.int IntKind.u32 (0), Value.int IntKind.u32 (0), Value.int IntKind.u32 (0), Value.int IntKind.u32 (0), Value.int IntKind.u32 (0), Value.int IntKind.u32 (0), Value.int IntKind.u32 (0), Value.int IntKind.u32 (0), Value.int IntKind.u32 (0), Value.int IntKind.u32 (0), Value.int IntKind.u32 (0), Value.int IntKind.u32 (0), Value.int IntKind.u32 (0), Value.int IntKind.u32 (0), Value.int IntKind.u32 (0), Value.int IntKind.u32 (0), Value.int IntKind.u32 (0), Value.int IntKind.u32 (0), Value.int IntKind.u32 (0), Value.int IntKind.u32 (0), Value.int IntKind.u32 (0), Value.int IntKind.u32 (0), Value.int IntKind.u32 (0), Value.int IntKind.u32 (0), Value.int IntKind.u32 (0), Value.int IntKind.u32 (0), Value.int IntKind.u32 (0), Value.int IntKind.u32 (0), Value.int IntKind.u32 (0), Value.int IntKind.u32 (0), Value.int IntKind.u32 (0), Value.int IntKind.u32 (0), Value.int IntKind.u32 (0), Value.int IntKind.u32 (0), Value.int IntKind.u32 (0), Value.int IntKind.u32 (0), Value.int IntKind.u32 (0), Value.int IntKind.u32 (0), Value.int IntKind.u32 (0), Value.int IntKind.u32 (0), Value.int IntKind.u32 (0), Value.int IntKind.u32 (0), Value.int IntKind.u32 (0), Value.int IntKind.u32 (0), Value.int IntKind.u32 (0)], D.array 64 120, true⟩ := by kernel_rfl
@[simp] theorem tt131 : tt 131 = some ⟨75, 300, [Value.int IntKind.u32 (0), Value.int IntKind.i32 (0), Value.int IntKind.u32 (0), Value.int IntKind.u32 (0), Value.int IntKind.u32 (0), Value.int IntKind.u32 (0), Value.int IntKind.u32 (0), Value.int IntKind.u32 (0), Value.int IntKind.u32 (0), Value.int IntKind.u32 (0), Value.int IntKind.u32 (0), Value.int IntKind.u32 (0), Value.int IntKind.u32 (0), Value.int IntKind.u32 (0), Value.int IntKind.u32 (0), Value.int IntKind.u32 (0), Value.int IntKind.u32 (0), Value.int IntKind.u32 (0), Value.int IntKind.u32 (0), Value.int IntKind.u32 (0), Value.int IntKind.u32 (0), Value.int IntKind.u32 (0), Value.int IntKind.u32 (0), Value.int IntKind.u32 (0), Value.int IntKind.u32 (0), Value.int IntKind.u32 (0), Value.int IntKind.u32 (0), Value.int IntKind.u32 (0), Value.int IntKind.u32 (0), Value.int IntKind.u32 (0), Value.int IntKind.u32 (0), Value.int IntKind.u32 (0), Value.int IntKind.u32 (0), Value.int IntKind.u32 (0), Value.int IntKind.u32 (0), Value.int IntKind.u32 (0), Value.int IntKind.u32 (0), Value.int IntKind.u32 (0), Value.int IntKind.u32 (0), Value.int IntKind.u32 (0), Value.int IntKind.u32 (0), Value.int IntKind.u32 (0), Value.int IntKind.u32 (0), Value.int IntKind.u32 (0), Value.int IntKind.u32 (0), Value.int IntKind.u32 (0), Value.int IntKind.u32 (0), Value.int IntKind.u32 (0), Value.int IntKind.u32 (0), Value.int IntKind.u32 (0), Value.int IntKind.u32 (0), Value.int IntKind.u32 (0), Value.int IntKind.u32 (0), Value.int IntKind.u32 (0), Value.int IntKind.u32 (0), Value.int IntKind.u32 (0), Value.int IntKind.u32 (0), Value.int IntKind.u32 (0), Value.int IntKind.u32 (0), Value.int IntKind.u32 (0), Value.int IntKind.u32 (0), Value.int IntKind.u32 (0), Value.int IntKind.u32 (0), Value.int IntKind.u32 (0), Value.int IntKind.u32 (0), Value.int IntKind.u32 (0), Value.int IntKind.u32 (0), Value.int IntKind.u32 (0), Value.int IntKind.u32 (0), Value.int IntKind.u32 (0), Value.int IntKind.u32 (0), Value.int IntKind.u32 (0), Value.int IntKind.u32 (0), Value.int IntKind.u32 (0), Value.int IntKind.u32 (0)], D.struct [(0, 128), (3, 129), (11, 130)], true⟩ := by kernel_rfl
@[simp] theorem tt132 : tt 132 = some ⟨75, 300, [Value.int IntKind.u32 (0), Value.int IntKind.i32 (0), Value.int IntKind.u32 (0), Value.int IntKind.u32 (0), Value.int IntKind.u32 (0), Value.int IntKind.u32 (0), Value.int IntKind.u32 (0), Value.int IntKind.u32 (0), Value.int IntKind.u32 (0), Value.int IntKind.u32 (0), Value.int IntKind.u32 (0), Value.int IntKind.u32 (0), Value.int IntKind.u32 (0), Value.int IntKind.u32 (0), Value.int IntKind.u32 (0), Value.int IntKind.u32 (0), Value.int IntKind.u32 (0), Value.int IntKind.u32 (0), Value.int IntKind.u32 (0), Value.int IntKind.u32 (0), Value.int IntKind.u32 (0), Value.int IntKind.u32 (0), Value.int IntKind.u32 (0), Value.int IntKind.u32 (0), Value.int IntKind.u32 (0), Value.int IntKind.u32 (0), Value.int IntKind.u32 (0), Value.int IntKind.u32 (0), Value.int IntKind.u32 (0), Value.int IntKind.u32 (0), Value.int IntKind.u32 (0), Value.int IntKind.u32 (0), Value.int IntKind.u32 (0), Value.int IntKind.u32 (0), Value.int IntKind.u32 (0), Value.int IntKind.u32 (0), Value.int IntKind.u32 (0), Value.int IntKind.u32 (0), Value.int IntKind.u32 (0), Value.int IntKind.u32 (0), Value.int IntKind.u32 (0), Value.int IntKind.u32 (0), Value.int IntKind.u32 (0), Value.int IntKind.u32 (0), Value.int IntKind.u32 (0), Value.int IntKind.u32 (0), Value.int IntKind.u32 (0), Value.int IntKind.u32 (0), Value.int IntKind.u32 (0), Value.int IntKind.u32 (0), Value.int IntKind.u32 (0), Value.int IntKind.u32 (0), Value.int IntKind.u32 (0), Value.int IntKind.u32 (0), Value.int IntKind.u32 (0), Value.int IntKind.u32 (0), Value.int IntKind.u32 (0), Value.int IntKind.u32 (0), Value.int IntKind.u32 (0), Value.int IntKind.u32 (0), Value.int IntKind.u32 (0), Value.int IntKind.u32 (0), Value.int IntKind.u32 (0), Value.int IntKind.u32 (0), Value.int IntKind.u32 (0), Value.int IntKind.u32 (0), Value.int IntKind.u32 (0), Value.int IntKind.u32 (0), Value.int IntKind.u32 (0), Value.int IntKind.u32 (0), Value.int IntKind.u32 (0), Value.int IntKind.u32 (0), Value.int IntKind.u32 (0), Value.int IntKind.u32 (0), Value.int IntKind.u32 (0)], D.struct [(0, 128), (3, 129), (11, 130)], true⟩ := by kernel_rfl
@[simp] theorem tt133 : tt 133 = some ⟨1, 24, [Value.slice none 0 0], D.slice 120, true⟩ := by kernel_rfl
@[simp] theorem tt134 : tt 134 = some ⟨1, 8, [Value.nilFunc], D.other, true⟩ := by kernel_rfl
@[simp] theorem tt135 : tt 135 = some ⟨1, 8, [Value.nilFunc], D.other, true⟩ := by kernel_rfl
@[simp] theorem tt136 : tt 136 = some ⟨1, 8, [Value.nilFunc], D.other, true⟩ := by kernel_rfl
@[simp] theorem tt137 : tt 137 = some ⟨1, 8, [Value.nilFunc], D.other, true⟩ := by kernel_rfl
@[simp] theorem tt138 : tt 138 = some ⟨1, 8, [Value.pointer none], D.pointer 129, true⟩ := by kernel_rfl
@[simp] theorem tt139 : tt 139 = some ⟨1, 8, [Value.pointer none], D.pointer 65, true⟩ := by kernel_rfl
@[simp] theorem tt140 : tt 140 = some ⟨1, 8, [Value.nilFunc], D.other, true⟩ := by kernel_rfl
@[simp] theorem tt141 : tt 141 = some ⟨1, 0, [Value.tuple { toList := [Value.int IntKind.i64 (0), Value.bool false] }], D.other, true⟩ := by kernel_rfl
@[simp] theorem tt142 : tt 142 = some ⟨1, 8, [Value.nilFunc], D.other, true⟩ := by kernel_rfl
@[simp] theorem tt143 : tt 143 = some ⟨1, 24, [Value.slice none 0 0], D.slice 114, true⟩ := by kernel_rfl
@[simp] theorem tt144 : tt 144 = some ⟨1, 8, [Value.nilFunc], D.other, true⟩ := by kernel_rfl
@[simp] theorem tt145 : tt 145 = some ⟨1, 8, [Value.pointer none], D.pointer 128, true⟩ := by kernel_rfl
@[simp] theorem tt146 : tt 146 = some ⟨1, 8, [Value.nilFunc], D.other, true⟩ := by kernel_rfl
@[simp] theorem tt147 : tt 147 = some ⟨1, 8, [Value.nilFunc], D.other, true⟩ := by kernel_rfl
@[simp] theorem tt148 : tt 148 = some ⟨1, 24, [Value.slice none 0 0], D.slice 112, true⟩ := by kernel_rfl
@[simp] theorem tt149 : tt 149 = some ⟨1, 8, [Value.nilFunc], D.other, true⟩ := by kernel_rfl
@[simp] theorem tt150 : tt 150 = some ⟨1, 8, [Value.pointer none], D.pointer 122, true⟩ := by kernel_rfl
@[simp] theorem tt151 : tt 151 = some ⟨1, 8, [Value.nilFunc], D.other, true⟩ := by kernel_rfl
@[simp] theorem tt152 : tt 152 = some ⟨1, 8, [Value.pointer none], D.pointer 120, true⟩ := by kernel_rfl
@[simp] theorem tt153 : tt 153 = some ⟨1, 8, [Value.nilFunc], D.other, true⟩ := by kernel_rfl
@[simp] theorem tt154 : tt 154 = some ⟨1, 8, [Value.nilFunc], D.other, true⟩ := by kernel_rfl
@[simp] theorem tt155 : tt 155 = some ⟨1, 8, [Value.pointer none], D.pointer 126, true⟩ := by kernel_rfl
@[simp] theorem tt156 : tt 156 = some ⟨1, 8, [Value.nilFunc], D.other, true⟩ := by kernel_rfl
@[simp] theorem tt157 : tt 157 = some ⟨1, 8, [Value.nilFunc], D.other, true⟩ := by kernel_rfl
@[simp] theorem tt158 : tt 158 = some ⟨1, 0, [Value.tuple { toList := [Value.int IntKind.u64 (0), Value.int IntKind.u64 (0)] }], D.other, true⟩ := by kernel_rfl
@[simp] theorem tt159 : tt 159 = some ⟨1, 8, [Value.nilFunc], D.other, true⟩ := by kernel_rfl
@[simp] theorem tt160 : tt 160 = some ⟨1, 8, [Value.nilFunc], D.other, true⟩ := by kernel_rfl
@[simp] theorem tt161 : tt 161 = some ⟨1, 8, [Value.pointer none], D.pointer 124, true⟩ := by kernel_rfl
@[simp] theorem tt162 : tt 162 = some ⟨1, 8, [Value.nilFunc], D.other, true⟩ := by kernel_rfl
@[simp] theorem tt163 : tt 163 = some ⟨1, 8, [Value.pointer none], D.pointer 21, true⟩ := by kernel_rfl
@[simp] theorem tt164 : tt 164 = some ⟨1, 8, [Value.nilFunc], D.other, true⟩ := by kernel_rfl
@[simp] theorem tt165 : tt 165 = some ⟨1, 8, [Value.pointer none], D.other, true⟩ := by kernel_rfl
@[simp] theorem tt166 : tt 166 = some ⟨1, 8, [Value.nilFunc], D.other, true⟩ := by kernel_rfl
@[simp] theorem tt167 : tt 167 = some ⟨1, 8, [Value.nilFunc], D.other, true⟩ := by kernel_rfl
@[simp] theorem tt168 : tt 168 = some ⟨1, 8, [Value.nilFunc], D.other, true⟩ := by kernel_rfl
@[simp] theorem tt169 : tt 169 = some ⟨1, 8, [Value.nilFunc], D.other, true⟩ := by kernel_rfl
@[simp] theorem tt170 : tt 170 = some ⟨1, 8, [Value.nilFunc], D.other, true⟩ := by kernel_rfl
@[simp] theorem tt171 : tt 171 = some ⟨1, 8, [Value.nilFunc], D.other, true⟩ := by kernel_rfl
@[simp] theorem tt172 : tt 172 = some ⟨1, 8, [Value.nilFunc], D.other, true⟩ := by kernel_rfl
@[simp] theorem tt173 : tt 173 = some ⟨4, 40, [Value.pointer none, Value.pointer none, Value.pointer none, Value.string { data := { toList := [] } }], D.struct [(0, 17), (1, 17), (2, 17), (3, 9)], false⟩ := by kernel_rfl
@[simp] theorem tt174 : tt 174 = some ⟨4, 40, [Value.pointer none, Value.pointer none, Value.pointer none, Value.string { data := { toList := [] } }], D.struct [(0, 17), (1, 17), (2, 17), (3, 9)], false⟩ := by kernel_rfl
@[simp] theorem tt175 : tt 175 = some ⟨0, 0, [], D.array 0 16, true⟩ := by kernel_rfl
@[simp] theorem tt176 : tt 176 = some ⟨0, 0, [], D.struct [(0, 175)], false⟩ := by kernel_rfl
@[simp] theorem tt177 : tt 177 = some ⟨0, 0, [], D.struct [(0, 175)], false⟩ := by kernel_rfl
@[simp] theorem tt178 : tt 178 = some ⟨1, 1, [Value.int IntKind.u8 (0)], D.int IntKind.u8, true⟩ := by kernel_rfl
@[simp] theorem tt179 : tt 179 = some ⟨1, 1, [Value.int IntKind.u8 (0)], D.int IntKind.u8, true⟩ := by kernel_rfl
@[simp] theorem tt180 : tt 180 = some ⟨1, 8, [Value.nilFunc], D.other, true⟩ := by kernel_rfl
@[simp] theorem tt181 : tt 181 = some ⟨1, 8, [Value.pointer none], D.pointer 5, true⟩ := by kernel_rfl
@[simp] theorem tt182 : tt 182 = some ⟨1, 4, [Value.int IntKind.i32 (0)], D.int IntKind.i32, true⟩ := by kernel_rfl
@[simp] theorem tt183 : tt 183 = some ⟨1, 4, [Value.int IntKind.i32 (0)], D.int IntKind.i32, true⟩ := by kernel_rfl
@[simp] theorem tt184 : tt 184 = some ⟨11, 48, [Value.int IntKind.u64 (0), Value.int IntKind.u64 (0), Value.int IntKind.u32 (0), Value.int IntKind.u8 (0), Value.int IntKind.u8 (0), Value.int IntKind.u8 (0), Value.int IntKind.u8 (0), Value.nilFunc, Value.pointer none, Value.int IntKind.i32 (0), Value.int IntKind.i32 (0)], D.struct [(0, 12), (1, 12), (2, 120), (3, 178), (4, 5), (5, 5), (6, 179), (7, 180), (8, 181), (9, 182), (10, 183)], false⟩ := by kernel_rfl
@[simp] theorem tt185 : tt 185 = some ⟨11, 48, [Value.int IntKind.u64 (0), Value.int IntKind.u64 (0), Value.int IntKind.u32 (0), Value.int IntKind.u8 (0), Value.int IntKind.u8 (0), Value.int IntKind.u8 (0), Value.int IntKind.u8 (0), Value.nilFunc, Value.pointer none, Value.int IntKind.i32 (0), Value.int IntKind.i32 (0)], D.struct [(0, 12), (1, 12), (2, 120), (3, 178), (4, 5), (5, 5), (6, 179), (7, 180), (8, 181), (9, 182), (10, 183)], false⟩ := by kernel_rfl
@[simp] theorem tt186 : tt 186 = some ⟨1, 8, [Value.nilFunc], D.other, true⟩ := by kernel_rfl
theorem tb3 : tb 3 = some (Try.f3, bodyOf Try.f3) := by kernel_rfl
theorem call3 (B : Fns) (K : FuncId → Nat → List Nat) (n d : Nat) (args : List A) (h : List Ob) : evFn tt tb B K n (d + 1) 3 args h = evBody tt (evFn tt tb B K n d) (D1 tt (evFn tt tb B K n d)) (K 3) n Try.f3 (bodyOf Try.f3) args h := by rw [evFn, tb3]
theorem tb4 : tb 4 = some (Try.f4, bodyOf Try.f4) := by kernel_rfl
theorem call4 (B : Fns) (K : FuncId → Nat → List Nat) (n d : Nat) (args : List A) (h : List Ob) : evFn tt tb B K n (d + 1) 4 args h = evBody tt (evFn tt tb B K n d) (D1 tt (evFn tt tb B K n d)) (K 4) n Try.f4 (bodyOf Try.f4) args h := by rw [evFn, tb4]
theorem tb5 : tb 5 = some (Try.f5, bodyOf Try.f5) := by kernel_rfl
theorem call5 (B : Fns) (K : FuncId → Nat → List Nat) (n d : Nat) (args : List A) (h : List Ob) : evFn tt tb B K n (d + 1) 5 args h = evBody tt (evFn tt tb B K n d) (D1 tt (evFn tt tb B K n d)) (K 5) n Try.f5 (bodyOf Try.f5) args h := by rw [evFn, tb5]
theorem tb6 : tb 6 = some (Try.f6, bodyOf Try.f6) := by kernel_rfl
theorem call6 (B : Fns) (K : FuncId → Nat → List Nat) (n d : Nat) (args : List A) (h : List Ob) : evFn tt tb B K n (d + 1) 6 args h = evBody tt (evFn tt tb B K n d) (D1 tt (evFn tt tb B K n d)) (K 6) n Try.f6 (bodyOf Try.f6) args h := by rw [evFn, tb6]
theorem tb7 : tb 7 = some (Try.f7, bodyOf Try.f7) := by kernel_rfl
theorem call7 (B : Fns) (K : FuncId → Nat → List Nat) (n d : Nat) (args : List A) (h : List Ob) : evFn tt tb B K n (d + 1) 7 args h = evBody tt (evFn tt tb B K n d) (D1 tt (evFn tt tb B K n d)) (K 7) n Try.f7 (bodyOf Try.f7) args h := by rw [evFn, tb7]
theorem tb8 : tb 8 = some (Try.f8, bodyOf Try.f8) := by kernel_rfl
theorem call8 (B : Fns) (K : FuncId → Nat → List Nat) (n d : Nat) (args : List A) (h : List Ob) : evFn tt tb B K n (d + 1) 8 args h = evBody tt (evFn tt tb B K n d) (D1 tt (evFn tt tb B K n d)) (K 8) n Try.f8 (bodyOf Try.f8) args h := by rw [evFn, tb8]
theorem tb9 : tb 9 = some (Try.f9, bodyOf Try.f9) := by kernel_rfl
theorem call9 (B : Fns) (K : FuncId → Nat → List Nat) (n d : Nat) (args : List A) (h : List Ob) : evFn tt tb B K n (d + 1) 9 args h = evBody tt (evFn tt tb B K n d) (D1 tt (evFn tt tb B K n d)) (K 9) n Try.f9 (bodyOf Try.f9) args h := by rw [evFn, tb9]
theorem tb10 : tb 10 = some (Try.f10, bodyOf Try.f10) := by kernel_rfl
theorem call10 (B : Fns) (K : FuncId → Nat → List Nat) (n d : Nat) (args : List A) (h : List Ob) : evFn tt tb B K n (d + 1) 10 args h = evBody tt (evFn tt tb B K n d) (D1 tt (evFn tt tb B K n d)) (K 10) n Try.f10 (bodyOf Try.f10) args h := by rw [evFn, tb10]
theorem tb11 : tb 11 = some (Try.f11, bodyOf Try.f11) := by kernel_rfl
theorem call11 (B : Fns) (K : FuncId → Nat → List Nat) (n d : Nat) (args : List A) (h : List Ob) : evFn tt tb B K n (d + 1) 11 args h = evBody tt (evFn tt tb B K n d) (D1 tt (evFn tt tb B K n d)) (K 11) n Try.f11 (bodyOf Try.f11) args h := by rw [evFn, tb11]
theorem tb12 : tb 12 = some (Try.f12, bodyOf Try.f12) := by kernel_rfl
theorem call12 (B : Fns) (K : FuncId → Nat → List Nat) (n d : Nat) (args : List A) (h : List Ob) : evFn tt tb B K n (d + 1) 12 args h = evBody tt (evFn tt tb B K n d) (D1 tt (evFn tt tb B K n d)) (K 12) n Try.f12 (bodyOf Try.f12) args h := by rw [evFn, tb12]
theorem tb13 : tb 13 = some (Try.f13, bodyOf Try.f13) := by kernel_rfl
theorem call13 (B : Fns) (K : FuncId → Nat → List Nat) (n d : Nat) (args : List A) (h : List Ob) : evFn tt tb B K n (d + 1) 13 args h = evBody tt (evFn tt tb B K n d) (D1 tt (evFn tt tb B K n d)) (K 13) n Try.f13 (bodyOf Try.f13) args h := by rw [evFn, tb13]
theorem tb14 : tb 14 = some (Try.f14, bodyOf Try.f14) := by kernel_rfl
theorem call14 (B : Fns) (K : FuncId → Nat → List Nat) (n d : Nat) (args : List A) (h : List Ob) : evFn tt tb B K n (d + 1) 14 args h = evBody tt (evFn tt tb B K n d) (D1 tt (evFn tt tb B K n d)) (K 14) n Try.f14 (bodyOf Try.f14) args h := by rw [evFn, tb14]
theorem tb15 : tb 15 = some (Try.f15, bodyOf Try.f15) := by kernel_rfl
theorem call15 (B : Fns) (K : FuncId → Nat → List Nat) (n d : Nat) (args : List A) (h : List Ob) : evFn tt tb B K n (d + 1) 15 args h = evBody tt (evFn tt tb B K n d) (D1 tt (evFn tt tb B K n d)) (K 15) n Try.f15 (bodyOf Try.f15) args h := by rw [evFn, tb15]
theorem tb16 : tb 16 = some (Try.f16, bodyOf Try.f16) := by kernel_rfl
theorem call16 (B : Fns) (K : FuncId → Nat → List Nat) (n d : Nat) (args : List A) (h : List Ob) : evFn tt tb B K n (d + 1) 16 args h = evBody tt (evFn tt tb B K n d) (D1 tt (evFn tt tb B K n d)) (K 16) n Try.f16 (bodyOf Try.f16) args h := by rw [evFn, tb16]
theorem tb17 : tb 17 = some (Try.f17, bodyOf Try.f17) := by kernel_rfl
theorem call17 (B : Fns) (K : FuncId → Nat → List Nat) (n d : Nat) (args : List A) (h : List Ob) : evFn tt tb B K n (d + 1) 17 args h = evBody tt (evFn tt tb B K n d) (D1 tt (evFn tt tb B K n d)) (K 17) n Try.f17 (bodyOf Try.f17) args h := by rw [evFn, tb17]
theorem tb18 : tb 18 = some (Try.f18, bodyOf Try.f18) := by kernel_rfl
theorem call18 (B : Fns) (K : FuncId → Nat → List Nat) (n d : Nat) (args : List A) (h : List Ob) : evFn tt tb B K n (d + 1) 18 args h = evBody tt (evFn tt tb B K n d) (D1 tt (evFn tt tb B K n d)) (K 18) n Try.f18 (bodyOf Try.f18) args h := by rw [evFn, tb18]
theorem tb19 : tb 19 = some (Try.f19, bodyOf Try.f19) := by kernel_rfl
theorem call19 (B : Fns) (K : FuncId → Nat → List Nat) (n d : Nat) (args : List A) (h : List Ob) : evFn tt tb B K n (d + 1) 19 args h = evBody tt (evFn tt tb B K n d) (D1 tt (evFn tt tb B K n d)) (K 19) n Try.f19 (bodyOf Try.f19) args h := by rw [evFn, tb19]
theorem tb20 : tb 20 = some (Try.f20, bodyOf Try.f20) := by kernel_rfl
theorem call20 (B : Fns) (K : FuncId → Nat → List Nat) (n d : Nat) (args : List A) (h : List Ob) : evFn tt tb B K n (d + 1) 20 args h = evBody tt (evFn tt tb B K n d) (D1 tt (evFn tt tb B K n d)) (K 20) n Try.f20 (bodyOf Try.f20) args h := by rw [evFn, tb20]
theorem tb21 : tb 21 = some (Try.f21, bodyOf Try.f21) := by kernel_rfl
theorem call21 (B : Fns) (K : FuncId → Nat → List Nat) (n d : Nat) (args : List A) (h : List Ob) : evFn tt tb B K n (d + 1) 21 args h = evBody tt (evFn tt tb B K n d) (D1 tt (evFn tt tb B K n d)) (K 21) n Try.f21 (bodyOf Try.f21) args h := by rw [evFn, tb21]
theorem tb22 : tb 22 = some (Try.f22, bodyOf Try.f22) := by kernel_rfl
theorem call22 (B : Fns) (K : FuncId → Nat → List Nat) (n d : Nat) (args : List A) (h : List Ob) : evFn tt tb B K n (d + 1) 22 args h = evBody tt (evFn tt tb B K n d) (D1 tt (evFn tt tb B K n d)) (K 22) n Try.f22 (bodyOf Try.f22) args h := by rw [evFn, tb22]
theorem tb23 : tb 23 = some (Try.f23, bodyOf Try.f23) := by kernel_rfl
theorem call23 (B : Fns) (K : FuncId → Nat → List Nat) (n d : Nat) (args : List A) (h : List Ob) : evFn tt tb B K n (d + 1) 23 args h = evBody tt (evFn tt tb B K n d) (D1 tt (evFn tt tb B K n d)) (K 23) n Try.f23 (bodyOf Try.f23) args h := by rw [evFn, tb23]
theorem tb24 : tb 24 = some (Try.f24, bodyOf Try.f24) := by kernel_rfl
theorem call24 (B : Fns) (K : FuncId → Nat → List Nat) (n d : Nat) (args : List A) (h : List Ob) : evFn tt tb B K n (d + 1) 24 args h = evBody tt (evFn tt tb B K n d) (D1 tt (evFn tt tb B K n d)) (K 24) n Try.f24 (bodyOf Try.f24) args h := by rw [evFn, tb24]
theorem tb25 : tb 25 = some (Try.f25, bodyOf Try.f25) := by kernel_rfl
theorem call25 (B : Fns) (K : FuncId → Nat → List Nat) (n d : Nat) (args : List A) (h : List Ob) : evFn tt tb B K n (d + 1) 25 args h = evBody tt (evFn tt tb B K n d) (D1 tt (evFn tt tb B K n d)) (K 25) n Try.f25 (bodyOf Try.f25) args h := by rw [evFn, tb25]
theorem tb26 : tb 26 = some (Try.f26, bodyOf Try.f26) := by kernel_rfl
theorem call26 (B : Fns) (K : FuncId → Nat → List Nat) (n d : Nat) (args : List A) (h : List Ob) : evFn tt tb B K n (d + 1) 26 args h = evBody tt (evFn tt tb B K n d) (D1 tt (evFn tt tb B K n d)) (K 26) n Try.f26 (bodyOf Try.f26) args h := by rw [evFn, tb26]
theorem tb27 : tb 27 = some (Try.f27, bodyOf Try.f27) := by kernel_rfl
theorem call27 (B : Fns) (K : FuncId → Nat → List Nat) (n d : Nat) (args : List A) (h : List Ob) : evFn tt tb B K n (d + 1) 27 args h = evBody tt (evFn tt tb B K n d) (D1 tt (evFn tt tb B K n d)) (K 27) n Try.f27 (bodyOf Try.f27) args h := by rw [evFn, tb27]
theorem tb28 : tb 28 = some (Try.f28, bodyOf Try.f28) := by kernel_rfl
theorem call28 (B : Fns) (K : FuncId → Nat → List Nat) (n d : Nat) (args : List A) (h : List Ob) : evFn tt tb B K n (d + 1) 28 args h = evBody tt (evFn tt tb B K n d) (D1 tt (evFn tt tb B K n d)) (K 28) n Try.f28 (bodyOf Try.f28) args h := by rw [evFn, tb28]
theorem tb29 : tb 29 = some (Try.f29, bodyOf Try.f29) := by kernel_rfl
theorem call29 (B : Fns) (K : FuncId → Nat → List Nat) (n d : Nat) (args : List A) (h : List Ob) : evFn tt tb B K n (d + 1) 29 args h = evBody tt (evFn tt tb B K n d) (D1 tt (evFn tt tb B K n d)) (K 29) n Try.f29 (bodyOf Try.f29) args h := by rw [evFn, tb29]
theorem tb30 : tb 30 = some (Try.f30, bodyOf Try.f30) := by kernel_rfl
theorem call30 (B : Fns) (K : FuncId → Nat → List Nat) (n d : Nat) (args : List A) (h : List Ob) : evFn tt tb B K n (d + 1) 30 args h = evBody tt (evFn tt tb B K n d) (D1 tt (evFn tt tb B K n d)) (K 30) n Try.f30 (bodyOf Try.f30) args h := by rw [evFn, tb30]
theorem tb31 : tb 31 = some (Try.f31, bodyOf Try.f31) := by kernel_rfl
theorem call31 (B : Fns) (K : FuncId → Nat → List Nat) (n d : Nat) (args : List A) (h : List Ob) : evFn tt tb B K n (d + 1) 31 args h = evBody tt (evFn tt tb B K n d) (D1 tt (evFn tt tb B K n d)) (K 31) n Try.f31 (bodyOf Try.f31) args h := by rw [evFn, tb31]
theorem tb32 : tb 32 = some (Try.f32, bodyOf Try.f32) := by kernel_rfl
theorem call32 (B : Fns) (K : FuncId → Nat → List Nat) (n d : Nat) (args : List A) (h : List Ob) : evFn tt tb B K n (d + 1) 32 args h = evBody tt (evFn tt tb B K n d) (D1 tt (evFn tt tb B K n d)) (K 32) n Try.f32 (bodyOf Try.f32) args h := by rw [evFn, tb32]
theorem tb33 : tb 33 = some (Try.f33, bodyOf Try.f33) := by kernel_rfl
theorem call33 (B : Fns) (K : FuncId → Nat → List Nat) (n d : Nat) (args : List A) (h : List Ob) : evFn tt tb B K n (d + 1) 33 args h = evBody tt (evFn tt tb B K n d) (D1 tt (evFn tt tb B K n d)) (K 33) n Try.f33 (bodyOf Try.f33) args h := by rw [evFn, tb33]
theorem tb34 : tb 34 = some (Try.f34, bodyOf Try.f34) := by kernel_rfl
theorem call34 (B : Fns) (K : FuncId → Nat → List Nat) (n d : Nat) (args : List A) (h : List Ob) : evFn tt tb B K n (d + 1) 34 args h = evBody tt (evFn tt tb B K n d) (D1 tt (evFn tt tb B K n d)) (K 34) n Try.f34 (bodyOf Try.f34) args h := by rw [evFn, tb34]
theorem tb35 : tb 35 = some (Try.f35, bodyOf Try.f35) := by kernel_rfl
theorem call35 (B : Fns) (K : FuncId → Nat → List Nat) (n d : Nat) (args : List A) (h : List Ob) : evFn tt tb B K n (d + 1) 35 args h = evBody tt (evFn tt tb B K n d) (D1 tt (evFn tt tb B K n d)) (K 35) n Try.f35 (bodyOf Try.f35) args h := by rw [evFn, tb35]
theorem tb36 : tb 36 = some (Try.f36, bodyOf Try.f36) := by kernel_rfl
theorem call36 (B : Fns) (K : FuncId → Nat → List Nat) (n d : Nat) (args : List A) (h : List Ob) : evFn tt tb B K n (d + 1) 36 args h = evBody tt (evFn tt tb B K n d) (D1 tt (evFn tt tb B K n d)) (K 36) n Try.f36 (bodyOf Try.f36) args h := by rw [evFn, tb36]
theorem tb37 : tb 37 = some (Try.f37, bodyOf Try.f37) := by kernel_rfl
theorem call37 (B : Fns) (K : FuncId → Nat → List Nat) (n d : Nat) (args : List A) (h : List Ob) : evFn tt tb B K n (d + 1) 37 args h = evBody tt (evFn tt tb B K n d) (D1 tt (evFn tt tb B K n d)) (K 37) n Try.f37 (bodyOf Try.f37) args h := by rw [evFn, tb37]
theorem tb38 : tb 38 = some (Try.f38, bodyOf Try.f38) := by kernel_rfl
theorem call38 (B : Fns) (K : FuncId → Nat → List Nat) (n d : Nat) (args : List A) (h : List Ob) : evFn tt tb B K n (d + 1) 38 args h = evBody tt (evFn tt tb B K n d) (D1 tt (evFn tt tb B K n d)) (K 38) n Try.f38 (bodyOf Try.f38) args h := by rw [evFn, tb38]
theorem tb39 : tb 39 = some (Try.f39, bodyOf Try.f39) := by kernel_rfl
theorem call39 (B : Fns) (K : FuncId → Nat → List Nat) (n d : Nat) (args : List A) (h : List Ob) : evFn tt tb B K n (d + 1) 39 args h = evBody tt (evFn tt tb B K n d) (D1 tt (evFn tt tb B K n d)) (K 39) n Try.f39 (bodyOf Try.f39) args h := by rw [evFn, tb39]
theorem tb40 : tb 40 = some (Try.f40, bodyOf Try.f40) := by kernel_rfl
theorem call40 (B : Fns) (K : FuncId → Nat → List Nat) (n d : Nat) (args : List A) (h : List Ob) : evFn tt tb B K n (d + 1) 40 args h = evBody tt (evFn tt tb B K n d) (D1 tt (evFn tt tb B K n d)) (K 40) n Try.f40 (bodyOf Try.f40) args h := by rw [evFn, tb40]
theorem tb41 : tb 41 = some (Try.f41, bodyOf Try.f41) := by kernel_rfl
theorem call41 (B : Fns) (K : FuncId → Nat → List Nat) (n d : Nat) (args : List A) (h : List Ob) : evFn tt tb B K n (d + 1) 41 args h = evBody tt (evFn tt tb B K n d) (D1 tt (evFn tt tb B K n d)) (K 41) n Try.f41 (bodyOf Try.f41) args h := by rw [evFn, tb41]
theorem tb42 : tb 42 = some (Try.f42, bodyOf Try.f42) := by kernel_rfl
theorem call42 (B : Fns) (K : FuncId → Nat → List Nat) (n d : Nat) (args : List A) (h : List Ob) : evFn tt tb B K n (d + 1) 42 args h = evBody tt (evFn tt tb B K n d) (D1 tt (evFn tt tb B K n d)) (K 42) n Try.f42 (bodyOf Try.f42) args h := by rw [evFn, tb42]
theorem tb43 : tb 43 = some (Try.f43, bodyOf Try.f43) := by kernel_rfl
theorem call43 (B : Fns) (K : FuncId → Nat → List Nat) (n d : Nat) (args : List A) (h : List Ob) : evFn tt tb B K n (d + 1) 43 args h = evBody tt (evFn tt tb B K n d) (D1 tt (evFn tt tb B K n d)) (K 43) n Try.f43 (bodyOf Try.f43) args h := by rw [evFn, tb43]
theorem tb44 : tb 44 = some (Try.f44, bodyOf Try.f44) := by kernel_rfl
theorem call44 (B : Fns) (K : FuncId → Nat → List Nat) (n d : Nat) (args : List A) (h : List Ob) : evFn tt tb B K n (d + 1) 44 args h = evBody tt (evFn tt tb B K n d) (D1 tt (evFn tt tb B K n d)) (K 44) n Try.f44 (bodyOf Try.f44) args h := by rw [evFn, tb44]
theorem tb45 : tb 45 = some (Try.f45, bodyOf Try.f45) := by kernel_rfl
theorem call45 (B : Fns) (K : FuncId → Nat → List Nat) (n d : Nat) (args : List A) (h : List Ob) : evFn tt tb B K n (d + 1) 45 args h = evBody tt (evFn tt tb B K n d) (D1 tt (evFn tt tb B K n d)) (K 45) n Try.f45 (bodyOf Try.f45) args h := by rw [evFn, tb45]
theorem tb46 : tb 46 = some (Try.f46, bodyOf Try.f46) := by kernel_rfl
theorem call46 (B : Fns) (K : FuncId → Nat → List Nat) (n d : Nat) (args : List A) (h : List Ob) : evFn tt tb B K n (d + 1) 46 args h = evBody tt (evFn tt tb B K n d) (D1 tt (evFn tt tb B K n d)) (K 46) n Try.f46 (bodyOf Try.f46) args h := by rw [evFn, tb46]
theorem tb47 : tb 47 = some (Try.f47, bodyOf Try.f47) := by kernel_rfl
theorem call47 (B : Fns) (K : FuncId → Nat → List Nat) (n d : Nat) (args : List A) (h : List Ob) : evFn tt tb B K n (d + 1) 47 args h = evBody tt (evFn tt tb B K n d) (D1 tt (evFn tt tb B K n d)) (K 47) n Try.f47 (bodyOf Try.f47) args h := by rw [evFn, tb47]
theorem tb48 : tb 48 = some (Try.f48, bodyOf Try.f48) := by kernel_rfl
theorem call48 (B : Fns) (K : FuncId → Nat → List Nat) (n d : Nat) (args : List A) (h : List Ob) : evFn tt tb B K n (d + 1) 48 args h = evBody tt (evFn tt tb B K n d) (D1 tt (evFn tt tb B K n d)) (K 48) n Try.f48 (bodyOf Try.f48) args h := by rw [evFn, tb48]
theorem tb49 : tb 49 = some (Try.f49, bodyOf Try.f49) := by kernel_rfl
theorem call49 (B : Fns) (K : FuncId → Nat → List Nat) (n d : Nat) (args : List A) (h : List Ob) : evFn tt tb B K n (d + 1) 49 args h = evBody tt (evFn tt tb B K n d) (D1 tt (evFn tt tb B K n d)) (K 49) n Try.f49 (bodyOf Try.f49) args h := by rw [evFn, tb49]
theorem tb50 : tb 50 = some (Try.f50, bodyOf Try.f50) := by kernel_rfl
theorem call50 (B : Fns) (K : FuncId → Nat → List Nat) (n d : Nat) (args : List A) (h : List Ob) : evFn tt tb B K n (d + 1) 50 args h = evBody tt (evFn tt tb B K n d) (D1 tt (evFn tt tb B K n d)) (K 50) n Try.f50 (bodyOf Try.f50) args h := by rw [evFn, tb50]
theorem tb51 : tb 51 = some (Try.f51, bodyOf Try.f51) := by kernel_rfl
theorem call51 (B : Fns) (K : FuncId → Nat → List Nat) (n d : Nat) (args : List A) (h : List Ob) : evFn tt tb B K n (d + 1) 51 args h = evBody tt (evFn tt tb B K n d) (D1 tt (evFn tt tb B K n d)) (K 51) n Try.f51 (bodyOf Try.f51) args h := by rw [evFn, tb51]
theorem tb52 : tb 52 = some (Try.f52, bodyOf Try.f52) := by kernel_rfl
theorem call52 (B : Fns) (K : FuncId → Nat → List Nat) (n d : Nat) (args : List A) (h : List Ob) : evFn tt tb B K n (d + 1) 52 args h = evBody tt (evFn tt tb B K n d) (D1 tt (evFn tt tb B K n d)) (K 52) n Try.f52 (bodyOf Try.f52) args h := by rw [evFn, tb52]
theorem tb53 : tb 53 = some (Try.f53, bodyOf Try.f53) := by kernel_rfl
theorem call53 (B : Fns) (K : FuncId → Nat → List Nat) (n d : Nat) (args : List A) (h : List Ob) : evFn tt tb B K n (d + 1) 53 args h = evBody tt (evFn tt tb B K n d) (D1 tt (evFn tt tb B K n d)) (K 53) n Try.f53 (bodyOf Try.f53) args h := by rw [evFn, tb53]
theorem tb54 : tb 54 = some (Try.f54, bodyOf Try.f54) := by kernel_rfl
theorem call54 (B : Fns) (K : FuncId → Nat → List Nat) (n d : Nat) (args : List A) (h : List Ob) : evFn tt tb B K n (d + 1) 54 args h = evBody tt (evFn tt tb B K n d) (D1 tt (evFn tt tb B K n d)) (K 54) n Try.f54 (bodyOf Try.f54) args h := by rw [evFn, tb54]
theorem tb55 : tb 55 = some (Try.f55, bodyOf Try.f55) := by kernel_rfl
theorem call55 (B : Fns) (K : FuncId → Nat → List Nat) (n d : Nat) (args : List A) (h : List Ob) : evFn tt tb B K n (d + 1) 55 args h = evBody tt (evFn tt tb B K n d) (D1 tt (evFn tt tb B K n d)) (K 55) n Try.f55 (bodyOf Try.f55) args h := by rw [evFn, tb55]
theorem tb56 : tb 56 = some (Try.f56, bodyOf Try.f56) := by kernel_rfl
theorem call56 (B : Fns) (K : FuncId → Nat → List Nat) (n d : Nat) (args : List A) (h : List Ob) : evFn tt tb B K n (d + 1) 56 args h = evBody tt (evFn tt tb B K n d) (D1 tt (evFn tt tb B K n d)) (K 56) n Try.f56 (bodyOf Try.f56) args h := by rw [evFn, tb56]
theorem tb57 : tb 57 = some (Try.f57, bodyOf Try.f57) := by kernel_rfl
theorem call57 (B : Fns) (K : FuncId → Nat → List Nat) (n d : Nat) (args : List A) (h : List Ob) : evFn tt tb B K n (d + 1) 57 args h = evBody tt (evFn tt tb B K n d) (D1 tt (evFn tt tb B K n d)) (K 57) n Try.f57 (bodyOf Try.f57) args h := by rw [evFn, tb57]
theorem tb58 : tb 58 = some (Try.f58, bodyOf Try.f58) := by kernel_rfl
theorem call58 (B : Fns) (K : FuncId → Nat → List Nat) (n d : Nat) (args : List A) (h : List Ob) : evFn tt tb B K n (d + 1) 58 args h = evBody tt (evFn tt tb B K n d) (D1 tt (evFn tt tb B K n d)) (K 58) n Try.f58 (bodyOf Try.f58) args h := by rw [evFn, tb58]
theorem tb59 : tb 59 = some (Try.f59, bodyOf Try.f59) := by kernel_rfl
theorem call59 (B : Fns) (K : FuncId → Nat → List Nat) (n d : Nat) (args : List A) (h : List Ob) : evFn tt tb B K n (d + 1) 59 args h = evBody tt (evFn tt tb B K n d) (D1 tt (evFn tt tb B K n d)) (K 59) n Try.f59 (bodyOf Try.f59) args h := by rw [evFn, tb59]
theorem tb60 : tb 60 = some (Try.f60, bodyOf Try.f60) := by kernel_rfl
theorem call60 (B : Fns) (K : FuncId → Nat → List Nat) (n d : Nat) (args : List A) (h : List Ob) : evFn tt tb B K n (d + 1) 60 args h = evBody tt (evFn tt tb B K n d) (D1 tt (evFn tt tb B K n d)) (K 60) n Try.f60 (bodyOf Try.f60) args h := by rw [evFn, tb60]
theorem tb61 : tb 61 = some (Try.f61, bodyOf Try.f61) := by kernel_rfl
theorem call61 (B : Fns) (K : FuncId → Nat → List Nat) (n d : Nat) (args : List A) (h : List Ob) : evFn tt tb B K n (d + 1) 61 args h = evBody tt (evFn tt tb B K n d) (D1 tt (evFn tt tb B K n d)) (K 61) n Try.f61 (bodyOf Try.f61) args h := by rw [evFn, tb61]
theorem tb62 : tb 62 = some (Try.f62, bodyOf Try.f62) := by kernel_rfl
theorem call62 (B : Fns) (K : FuncId → Nat → List Nat) (n d : Nat) (args : List A) (h : List Ob) : evFn tt tb B K n (d + 1) 62 args h = evBody tt (evFn tt tb B K n d) (D1 tt (evFn tt tb B K n d)) (K 62) n Try.f62 (bodyOf Try.f62) args h := by rw [evFn, tb62]
theorem tb63 : tb 63 = some (Try.f63, bodyOf Try.f63) := by kernel_rfl
theorem call63 (B : Fns) (K : FuncId → Nat → List Nat) (n d : Nat) (args : List A) (h : List Ob) : evFn tt tb B K n (d + 1) 63 args h = evBody tt (evFn tt tb B K n d) (D1 tt (evFn tt tb B K n d)) (K 63) n Try.f63 (bodyOf Try.f63) args h := by rw [evFn, tb63]
theorem tb65 : tb 65 = some (Try.f65, bodyOf Try.f65) := by kernel_rfl
theorem call65 (B : Fns) (K : FuncId → Nat → List Nat) (n d : Nat) (args : List A) (h : List Ob) : evFn tt tb B K n (d + 1) 65 args h = evBody tt (evFn tt tb B K n d) (D1 tt (evFn tt tb B K n d)) (K 65) n Try.f65 (bodyOf Try.f65) args h := by rw [evFn, tb65]
theorem tb66 : tb 66 = some (Try.f66, bodyOf Try.f66) := by kernel_rfl
theorem call66 (B : Fns) (K : FuncId → Nat → List Nat) (n d : Nat) (args : List A) (h : List Ob) : evFn tt tb B K n (d + 1) 66 args h = evBody tt (evFn tt tb B K n d) (D1 tt (evFn tt tb B K n d)) (K 66) n Try.f66 (bodyOf Try.f66) args h := by rw [evFn, tb66]
theorem tb67 : tb 67 = some (Try.f67, bodyOf Try.f67) := by kernel_rfl
theorem call67 (B : Fns) (K : FuncId → Nat → List Nat) (n d : Nat) (args : List A) (h : List Ob) : evFn tt tb B K n (d + 1) 67 args h = evBody tt (evFn tt tb B K n d) (D1 tt (evFn tt tb B K n d)) (K 67) n Try.f67 (bodyOf Try.f67) args h := by rw [evFn, tb67]
theorem tb68 : tb 68 = some (Try.f68, bodyOf Try.f68) := by kernel_rfl
theorem call68 (B : Fns) (K : FuncId → Nat → List Nat) (n d : Nat) (args : List A) (h : List Ob) : evFn tt tb B K n (d + 1) 68 args h = evBody tt (evFn tt tb B K n d) (D1 tt (evFn tt tb B K n d)) (K 68) n Try.f68 (bodyOf Try.f68) args h := by rw [evFn, tb68]
theorem tb69 : tb 69 = some (Try.f69, bodyOf Try.f69) := by kernel_rfl
theorem call69 (B : Fns) (K : FuncId → Nat → List Nat) (n d : Nat) (args : List A) (h : List Ob) : evFn tt tb B K n (d + 1) 69 args h = evBody tt (evFn tt tb B K n d) (D1 tt (evFn tt tb B K n d)) (K 69) n Try.f69 (bodyOf Try.f69) args h := by rw [evFn, tb69]
theorem tb70 : tb 70 = some (Try.f70, bodyOf Try.f70) := by kernel_rfl
theorem call70 (B : Fns) (K : FuncId → Nat → List Nat) (n d : Nat) (args : List A) (h : List Ob) : evFn tt tb B K n (d + 1) 70 args h = evBody tt (evFn tt tb B K n d) (D1 tt (evFn tt tb B K n d)) (K 70) n Try.f70 (bodyOf Try.f70) args h := by rw [evFn, tb70]
theorem tb73 : tb 73 = some (Try.f73, bodyOf Try.f73) := by kernel_rfl
theorem call73 (B : Fns) (K : FuncId → Nat → List Nat) (n d : Nat) (args : List A) (h : List Ob) : evFn tt tb B K n (d + 1) 73 args h = evBody tt (evFn tt tb B K n d) (D1 tt (evFn tt tb B K n d)) (K 73) n Try.f73 (bodyOf Try.f73) args h := by rw [evFn, tb73]
theorem tb74 : tb 74 = some (Try.f74, bodyOf Try.f74) := by kernel_rfl
theorem call74 (B : Fns) (K : FuncId → Nat → List Nat) (n d : Nat) (args : List A) (h : List Ob) : evFn tt tb B K n (d + 1) 74 args h = evBody tt (evFn tt tb B K n d) (D1 tt (evFn tt tb B K n d)) (K 74) n Try.f74 (bodyOf Try.f74) args h := by rw [evFn, tb74]
theorem tb75 : tb 75 = some (Try.f75, bodyOf Try.f75) := by kernel_rfl
theorem call75 (B : Fns) (K : FuncId → Nat → List Nat) (n d : Nat) (args : List A) (h : List Ob) : evFn tt tb B K n (d + 1) 75 args h = evBody tt (evFn tt tb B K n d) (D1 tt (evFn tt tb B K n d)) (K 75) n Try.f75 (bodyOf Try.f75) args h := by rw [evFn, tb75]
theorem tb76 : tb 76 = some (Try.f76, bodyOf Try.f76) := by kernel_rfl
theorem call76 (B : Fns) (K : FuncId → Nat → List Nat) (n d : Nat) (args : List A) (h : List Ob) : evFn tt tb B K n (d + 1) 76 args h = evBody tt (evFn tt tb B K n d) (D1 tt (evFn tt tb B K n d)) (K 76) n Try.f76 (bodyOf Try.f76) args h := by rw [evFn, tb76]
theorem tb77 : tb 77 = some (Try.f77, bodyOf Try.f77) := by kernel_rfl
theorem call77 (B : Fns) (K : FuncId → Nat → List Nat) (n d : Nat) (args : List A) (h : List Ob) : evFn tt tb B K n (d + 1) 77 args h = evBody tt (evFn tt tb B K n d) (D1 tt (evFn tt tb B K n d)) (K 77) n Try.f77 (bodyOf Try.f77) args h := by rw [evFn, tb77]
theorem tb78 : tb 78 = some (Try.f78, bodyOf Try.f78) := by kernel_rfl
theorem call78 (B : Fns) (K : FuncId → Nat → List Nat) (n d : Nat) (args : List A) (h : List Ob) : evFn tt tb B K n (d + 1) 78 args h = evBody tt (evFn tt tb B K n d) (D1 tt (evFn tt tb B K n d)) (K 78) n Try.f78 (bodyOf Try.f78) args h := by rw [evFn, tb78]
theorem tb79 : tb 79 = some (Try.f79, bodyOf Try.f79) := by kernel_rfl
theorem call79 (B : Fns) (K : FuncId → Nat → List Nat) (n d : Nat) (args : List A) (h : List Ob) : evFn tt tb B K n (d + 1) 79 args h = evBody tt (evFn tt tb B K n d) (D1 tt (evFn tt tb B K n d)) (K 79) n Try.f79 (bodyOf Try.f79) args h := by rw [evFn, tb79]
theorem tb80 : tb 80 = some (Try.f80, bodyOf Try.f80) := by kernel_rfl
theorem call80 (B : Fns) (K : FuncId → Nat → List Nat) (n d : Nat) (args : List A) (h : List Ob) : evFn tt tb B K n (d + 1) 80 args h = evBody tt (evFn tt tb B K n d) (D1 tt (evFn tt tb B K n d)) (K 80) n Try.f80 (bodyOf Try.f80) args h := by rw [evFn, tb80]
theorem tb81 : tb 81 = some (Try.f81, bodyOf Try.f81) := by kernel_rfl
theorem call81 (B : Fns) (K : FuncId → Nat → List Nat) (n d : Nat) (args : List A) (h : List Ob) : evFn tt tb B K n (d + 1) 81 args h = evBody tt (evFn tt tb B K n d) (D1 tt (evFn tt tb B K n d)) (K 81) n Try.f81 (bodyOf Try.f81) args h := by rw [evFn, tb81]
theorem tb82 : tb 82 = some (Try.f82, bodyOf Try.f82) := by kernel_rfl
theorem call82 (B : Fns) (K : FuncId → Nat → List Nat) (n d : Nat) (args : List A) (h : List Ob) : evFn tt tb B K n (d + 1) 82 args h = evBody tt (evFn tt tb B K n d) (D1 tt (evFn tt tb B K n d)) (K 82) n Try.f82 (bodyOf Try.f82) args h := by rw [evFn, tb82]
theorem tb83 : tb 83 = some (Try.f83, bodyOf Try.f83) := by kernel_rfl
theorem call83 (B : Fns) (K : FuncId → Nat → List Nat) (n d : Nat) (args : List A) (h : List Ob) : evFn tt tb B K n (d + 1) 83 args h = evBody tt (evFn tt tb B K n d) (D1 tt (evFn tt tb B K n d)) (K 83) n Try.f83 (bodyOf Try.f83) args h := by rw [evFn, tb83]
theorem tb84 : tb 84 = some (Try.f84, bodyOf Try.f84) := by kernel_rfl
theorem call84 (B : Fns) (K : FuncId → Nat → List Nat) (n d : Nat) (args : List A) (h : List Ob) : evFn tt tb B K n (d + 1) 84 args h = evBody tt (evFn tt tb B K n d) (D1 tt (evFn tt tb B K n d)) (K 84) n Try.f84 (bodyOf Try.f84) args h := by rw [evFn, tb84]
theorem tb85 : tb 85 = some (Try.f85, bodyOf Try.f85) := by kernel_rfl
theorem call85 (B : Fns) (K : FuncId → Nat → List Nat) (n d : Nat) (args : List A) (h : List Ob) : evFn tt tb B K n (d + 1) 85 args h = evBody tt (evFn tt tb B K n d) (D1 tt (evFn tt tb B K n d)) (K 85) n Try.f85 (bodyOf Try.f85) args h := by rw [evFn, tb85]
theorem tb86 : tb 86 = some (Try.f86, bodyOf Try.f86) := by kernel_rfl
theorem call86 (B : Fns) (K : FuncId → Nat → List Nat) (n d : Nat) (args : List A) (h : List Ob) : evFn tt tb B K n (d + 1) 86 args h = evBody tt (evFn tt tb B K n d) (D1 tt (evFn tt tb B K n d)) (K 86) n Try.f86 (bodyOf Try.f86) args h := by rw [evFn, tb86]
theorem tb87 : tb 87 = some (Try.f87, bodyOf Try.f87) := by kernel_rfl
theorem call87 (B : Fns) (K : FuncId → Nat → List Nat) (n d : Nat) (args : List A) (h : List Ob) : evFn tt tb B K n (d + 1) 87 args h = evBody tt (evFn tt tb B K n d) (D1 tt (evFn tt tb B K n d)) (K 87) n Try.f87 (bodyOf Try.f87) args h := by rw [evFn, tb87]
theorem tb88 : tb 88 = some (Try.f88, bodyOf Try.f88) := by kernel_rfl
theorem call88 (B : Fns) (K : FuncId → Nat → List Nat) (n d : Nat) (args : List A) (h : List Ob) : evFn tt tb B K n (d + 1) 88 args h = evBody tt (evFn tt tb B K n d) (D1 tt (evFn tt tb B K n d)) (K 88) n Try.f88 (bodyOf Try.f88) args h := by rw [evFn, tb88]
theorem tb89 : tb 89 = some (Try.f89, bodyOf Try.f89) := by kernel_rfl
theorem call89 (B : Fns) (K : FuncId → Nat → List Nat) (n d : Nat) (args : List A) (h : List Ob) : evFn tt tb B K n (d + 1) 89 args h = evBody tt (evFn tt tb B K n d) (D1 tt (evFn tt tb B K n d)) (K 89) n Try.f89 (bodyOf Try.f89) args h := by rw [evFn, tb89]
theorem tb90 : tb 90 = some (Try.f90, bodyOf Try.f90) := by kernel_rfl
theorem call90 (B : Fns) (K : FuncId → Nat → List Nat) (n d : Nat) (args : List A) (h : List Ob) : evFn tt tb B K n (d + 1) 90 args h = evBody tt (evFn tt tb B K n d) (D1 tt (evFn tt tb B K n d)) (K 90) n Try.f90 (bodyOf Try.f90) args h := by rw [evFn, tb90]
theorem tb91 : tb 91 = some (Try.f91, bodyOf Try.f91) := by kernel_rfl
theorem call91 (B : Fns) (K : FuncId → Nat → List Nat) (n d : Nat) (args : List A) (h : List Ob) : evFn tt tb B K n (d + 1) 91 args h = evBody tt (evFn tt tb B K n d) (D1 tt (evFn tt tb B K n d)) (K 91) n Try.f91 (bodyOf Try.f91) args h := by rw [evFn, tb91]
theorem tb92 : tb 92 = some (Try.f92, bodyOf Try.f92) := by kernel_rfl
theorem call92 (B : Fns) (K : FuncId → Nat → List Nat) (n d : Nat) (args : List A) (h : List Ob) : evFn tt tb B K n (d + 1) 92 args h = evBody tt (evFn tt tb B K n d) (D1 tt (evFn tt tb B K n d)) (K 92) n Try.f92 (bodyOf Try.f92) args h := by rw [evFn, tb92]
theorem tb94 : tb 94 = some (Try.f94, bodyOf Try.f94) := by kernel_rfl
theorem call94 (B : Fns) (K : FuncId → Nat → List Nat) (n d : Nat) (args : List A) (h : List Ob) : evFn tt tb B K n (d + 1) 94 args h = evBody tt (evFn tt tb B K n d) (D1 tt (evFn tt tb B K n d)) (K 94) n Try.f94 (bodyOf Try.f94) args h := by rw [evFn, tb94]
theorem tb95 : tb 95 = some (Try.f95, bodyOf Try.f95) := by kernel_rfl
theorem call95 (B : Fns) (K : FuncId → Nat → List Nat) (n d : Nat) (args : List A) (h : List Ob) : evFn tt tb B K n (d + 1) 95 args h = evBody tt (evFn tt tb B K n d) (D1 tt (evFn tt tb B K n d)) (K 95) n Try.f95 (bodyOf Try.f95) args h := by rw [evFn, tb95]
theorem tb96 : tb 96 = some (Try.f96, bodyOf Try.f96) := by kernel_rfl
theorem call96 (B : Fns) (K : FuncId → Nat → List Nat) (n d : Nat) (args : List A) (h : List Ob) : evFn tt tb B K n (d + 1) 96 args h = evBody tt (evFn tt tb B K n d) (D1 tt (evFn tt tb B K n d)) (K 96) n Try.f96 (bodyOf Try.f96) args h := by rw [evFn, tb96]
theorem tb97 : tb 97 = some (Try.f97, bodyOf Try.f97) := by kernel_rfl
theorem call97 (B : Fns) (K : FuncId → Nat → List Nat) (n d : Nat) (args : List A) (h : List Ob) : evFn tt tb B K n (d + 1) 97 args h = evBody tt (evFn tt tb B K n d) (D1 tt (evFn tt tb B K n d)) (K 97) n Try.f97 (bodyOf Try.f97) args h := by rw [evFn, tb97]
theorem tb98 : tb 98 = some (Try.f98, bodyOf Try.f98) := by kernel_rfl
theorem call98 (B : Fns) (K : FuncId → Nat → List Nat) (n d : Nat) (args : List A) (h : List Ob) : evFn tt tb B K n (d + 1) 98 args h = evBody tt (evFn tt tb B K n d) (D1 tt (evFn tt tb B K n d)) (K 98) n Try.f98 (bodyOf Try.f98) args h := by rw [evFn, tb98]
theorem tb99 : tb 99 = some (Try.f99, bodyOf Try.f99) := by kernel_rfl
theorem call99 (B : Fns) (K : FuncId → Nat → List Nat) (n d : Nat) (args : List A) (h : List Ob) : evFn tt tb B K n (d + 1) 99 args h = evBody tt (evFn tt tb B K n d) (D1 tt (evFn tt tb B K n d)) (K 99) n Try.f99 (bodyOf Try.f99) args h := by rw [evFn, tb99]
theorem tb101 : tb 101 = some (Try.f101, bodyOf Try.f101) := by kernel_rfl
theorem call101 (B : Fns) (K : FuncId → Nat → List Nat) (n d : Nat) (args : List A) (h : List Ob) : evFn tt tb B K n (d + 1) 101 args h = evBody tt (evFn tt tb B K n d) (D1 tt (evFn tt tb B K n d)) (K 101) n Try.f101 (bodyOf Try.f101) args h := by rw [evFn, tb101]
theorem tb102 : tb 102 = some (Try.f102, bodyOf Try.f102) := by kernel_rfl
theorem call102 (B : Fns) (K : FuncId → Nat → List Nat) (n d : Nat) (args : List A) (h : List Ob) : evFn tt tb B K n (d + 1) 102 args h = evBody tt (evFn tt tb B K n d) (D1 tt (evFn tt tb B K n d)) (K 102) n Try.f102 (bodyOf Try.f102) args h := by rw [evFn, tb102]
end Go.Flat
