/-
  The tables of the program: its types, its functions, as they are gone through.
-/
import Derived.Test.YtkepkcddlphojaaFlatO
import Derived.Test.YtkepkcddlphojaaChecked
namespace Go.Flat
open Go.Proofs
set_option maxRecDepth 100000

@[irreducible] noncomputable def tt : Tab := tab Try.prog
@[irreducible] noncomputable def tb : FuncId → Option (Func × Code) := tblOf Try.prog
def bodyOf (f : Func) : Code := f.body.getD .skip
theorem mixed : Try.prog.follows .mixedOrders = true := by kernel_rfl
theorem evs_sound {B : Fns} (hB : Sound Try.prog B) (K : FuncId → Nat → List Nat) (n d : Nat) : Sound Try.prog (evFn tt tb B K n d) := by rw [tt, tb]; exact evFn_sound mixed hB K n d
attribute [simp] bodyOf

@[simp] theorem tt0 : tt 0 = some ⟨1, 0, [Value.tuple { toList := [] }], D.other, true⟩ := by kernel_rfl
@[simp] theorem tt1 : tt 1 = some ⟨1, 8, [Value.nilFunc], D.other, true⟩ := by kernel_rfl
@[simp] theorem tt2 : tt 2 = some ⟨1, 8, [Value.int IntKind.i64 (0)], D.int IntKind.i64, true⟩ := by kernel_rfl
@[simp] theorem tt3 : tt 3 = some ⟨1, 8, [Value.int IntKind.i64 (0)], D.int IntKind.i64, true⟩ := by kernel_rfl
@[simp] theorem tt4 : tt 4 = some ⟨1, 1, [Value.bool false], D.bool, true⟩ := by kernel_rfl
@[simp] theorem tt5 : tt 5 = some ⟨1, 1, [Value.int IntKind.u8 (0)], D.int IntKind.u8, true⟩ := by kernel_rfl
@[simp] theorem tt6 : tt 6 = some ⟨1, 1, [Value.int IntKind.u8 (0)], D.int IntKind.u8, true⟩ := by kernel_rfl
@[simp] theorem tt7 : tt 7 = some ⟨4, 24, [Value.int IntKind.i64 (0), Value.int IntKind.i64 (0), Value.bool false, Value.int IntKind.u8 (0)], D.struct [(0, 2), (1, 3), (2, 4), (3, 6)], true⟩ := by kernel_rfl
@[simp] theorem tt8 : tt 8 = some ⟨4, 24, [Value.int IntKind.i64 (0), Value.int IntKind.i64 (0), Value.bool false, Value.int IntKind.u8 (0)], D.struct [(0, 2), (1, 3), (2, 4), (3, 6)], true⟩ := by kernel_rfl
@[simp] theorem tt9 : tt 9 = some ⟨1, 16, [Value.string { data := { toList := [] } }], D.string, true⟩ := by kernel_rfl
@[simp] theorem tt10 : tt 10 = some ⟨1, 16, [Value.string { data := { toList := [] } }], D.string, true⟩ := by kernel_rfl
@[simp] theorem tt11 : tt 11 = some ⟨1, 16, [Value.string { data := { toList := [] } }], D.string, true⟩ := by kernel_rfl
@[simp] theorem tt12 : tt 12 = some ⟨1, 8, [Value.int IntKind.u64 (0)], D.int IntKind.u64, true⟩ := by kernel_rfl
@[simp] theorem tt13 : tt 13 = some ⟨2, 24, [Value.string { data := { toList := [] } }, Value.int IntKind.u64 (0)], D.struct [(0, 9), (1, 12)], false⟩ := by kernel_rfl
@[simp] theorem tt14 : tt 14 = some ⟨2, 24, [Value.string { data := { toList := [] } }, Value.int IntKind.u64 (0)], D.struct [(0, 9), (1, 12)], false⟩ := by kernel_rfl
@[simp] theorem tt15 : tt 15 = some ⟨1, 8, [Value.pointer none], D.pointer 174, true⟩ := by kernel_rfl
@[simp] theorem tt16 : tt 16 = some ⟨1, 8, [Value.pointer none], D.pointer 177, true⟩ := by kernel_rfl
@[simp] theorem tt17 : tt 17 = some ⟨1, 8, [Value.pointer none], D.pointer 185, true⟩ := by kernel_rfl
@[simp] theorem tt18 : tt 18 = some ⟨1, 8, [Value.pointer none], D.struct [(0, 17)], false⟩ := by kernel_rfl
@[simp] theorem tt19 : tt 19 = some ⟨1, 8, [Value.pointer none], D.struct [(0, 17)], false⟩ := by kernel_rfl
@[simp] theorem tt20 : tt 20 = some ⟨1, 16, [Value.nilIface], D.other, true⟩ := by kernel_rfl
@[simp] theorem tt21 : tt 21 = some ⟨1, 4, [Value.int IntKind.i32 (0)], D.int IntKind.i32, true⟩ := by kernel_rfl
@[simp] theorem tt22 : tt 22 = some ⟨1, 24, [Value.slice none 0 0], D.slice 27, true⟩ := by kernel_rfl
@[simp] theorem tt23 : tt 23 = some ⟨1, 8, [Value.nilFunc], D.other, true⟩ := by kernel_rfl
@[simp] theorem tt24 : tt 24 = some ⟨1, 8, [Value.pointer none], D.pointer 103, true⟩ := by kernel_rfl
@[simp] theorem tt25 : tt 25 = some ⟨1, 8, [Value.nilFunc], D.other, true⟩ := by kernel_rfl
@[simp] theorem tt26 : tt 26 = some ⟨1, 8, [Value.int IntKind.u64 (0)], D.int IntKind.u64, true⟩ := by kernel_rfl
@[simp] theorem tt27 : tt 27 = some ⟨1, 2, [Value.int IntKind.u16 (0)], D.int IntKind.u16, true⟩ := by kernel_rfl
@[simp] theorem tt28 : tt 28 = some ⟨1, 8, [Value.nilFunc], D.other, true⟩ := by kernel_rfl
@[simp] theorem tt29 : tt 29 = some ⟨1, 8, [Value.nilFunc], D.other, true⟩ := by kernel_rfl
@[simp] theorem tt30 : tt 30 = some ⟨1, 8, [Value.nilFunc], D.other, true⟩ := by kernel_rfl
@[simp] theorem tt31 : tt 31 = some ⟨1, 24, [Value.slice none 0 0], D.slice 5, true⟩ := by kernel_rfl
@[simp] theorem tt32 : tt 32 = some ⟨1, 8, [Value.nilFunc], D.other, true⟩ := by kernel_rfl
@[simp] theorem tt33 : tt 33 = some ⟨1, 8, [Value.int IntKind.i64 (0)], D.int IntKind.i64, true⟩ := by kernel_rfl
@[simp] theorem tt34 : tt 34 = some ⟨1, 0, [Value.tuple { toList := [Value.slice none 0 0, Value.int IntKind.i64 (0)] }], D.other, true⟩ := by kernel_rfl
@[simp] theorem tt35 : tt 35 = some ⟨1, 8, [Value.nilFunc], D.other, true⟩ := by kernel_rfl
@[simp] theorem tt36 : tt 36 = some ⟨1, 8, [Value.nilFunc], D.other, true⟩ := by kernel_rfl
@[simp] theorem tt37 : tt 37 = some ⟨1, 24, [Value.slice none 0 0], D.slice 3, true⟩ := by kernel_rfl
@[simp] theorem tt38 : tt 38 = some ⟨1, 8, [Value.nilFunc], D.other, true⟩ := by kernel_rfl
@[simp] theorem tt39 : tt 39 = some ⟨1, 8, [Value.nilFunc], D.other, true⟩ := by kernel_rfl
@[simp] theorem tt40 : tt 40 = some ⟨1, 0, [Value.tuple { toList := [Value.int IntKind.u64 (0), Value.int IntKind.i64 (0), Value.int IntKind.i64 (0)] }], D.other, true⟩ := by kernel_rfl
@[simp] theorem tt41 : tt 41 = some ⟨1, 8, [Value.nilFunc], D.other, true⟩ := by kernel_rfl
@[simp] theorem tt42 : tt 42 = some ⟨1, 8, [Value.nilFunc], D.other, true⟩ := by kernel_rfl
@[simp] theorem tt43 : tt 43 = some ⟨1, 0, [Value.tuple { toList := [Value.int IntKind.u64 (0), Value.int IntKind.i64 (0)] }], D.other, true⟩ := by kernel_rfl
@[simp] theorem tt44 : tt 44 = some ⟨1, 8, [Value.nilFunc], D.other, true⟩ := by kernel_rfl
@[simp] theorem tt45 : tt 45 = some ⟨1, 8, [Value.nilFunc], D.other, true⟩ := by kernel_rfl
@[simp] theorem tt46 : tt 46 = some ⟨1, 24, [Value.slice none 0 0], D.slice 26, true⟩ := by kernel_rfl
@[simp] theorem tt47 : tt 47 = some ⟨1, 8, [Value.pointer none], D.pointer 49, true⟩ := by kernel_rfl
@[simp] theorem tt48 : tt 48 = some ⟨2, 32, [Value.slice none 0 0, Value.int IntKind.i64 (0)], D.struct [(0, 31), (1, 33)], true⟩ := by kernel_rfl
@[simp] theorem tt49 : tt 49 = some ⟨2, 32, [Value.slice none 0 0, Value.int IntKind.i64 (0)], D.struct [(0, 31), (1, 33)], true⟩ := by kernel_rfl
@[simp] theorem tt50 : tt 50 = some ⟨1, 24, [Value.slice none 0 0], D.slice 46, true⟩ := by kernel_rfl
@[simp] theorem tt51 : tt 51 = some ⟨1, 8, [Value.nilFunc], D.other, true⟩ := by kernel_rfl
@[simp] theorem tt52 : tt 52 = some ⟨1, 8, [Value.nilFunc], D.other, true⟩ := by kernel_rfl
@[simp] theorem tt53 : tt 53 = some ⟨1, 8, [Value.nilFunc], D.other, true⟩ := by kernel_rfl
@[simp] theorem tt54 : tt 54 = some ⟨1, 8, [Value.nilFunc], D.other, true⟩ := by kernel_rfl
@[simp] theorem tt55 : tt 55 = some ⟨1, 8, [Value.nilFunc], D.other, true⟩ := by kernel_rfl
@[simp] theorem tt56 : tt 56 = some ⟨8, 8, [Value.int IntKind.u8 (0), Value.int IntKind.u8 (0), Value.int IntKind.u8 (0), Value.int IntKind.u8 (0), Value.int IntKind.u8 (0), Value.int IntKind.u8 (0), Value.int IntKind.u8 (0), Value.int IntKind.u8 (0)], D.array 8 5, true⟩ := by kernel_rfl
@[simp] theorem tt57 : tt 57 = some ⟨1, 8, [Value.nilFunc], D.other, true⟩ := by kernel_rfl
@[simp] theorem tt58 : tt 58 = some ⟨1, 8, [Value.nilFunc], D.other, true⟩ := by kernel_rfl
@[simp] theorem tt59 : tt 59 = some ⟨1, 0, [Value.tuple { toList := [Value.agg { toList := [Value.int IntKind.u8 (0), Value.int IntKind.u8 (0), Value.int IntKind.u8 (0), Value.int IntKind.u8 (0), Value.int IntKind.u8 (0), Value.int IntKind.u8 (0), Value.int IntKind.u8 (0), Value.int IntKind.u8 (0)] }, Value.bool false] }], D.other, true⟩ := by kernel_rfl
@[simp] theorem tt60 : tt 60 = some ⟨1, 8, [Value.nilFunc], D.other, true⟩ := by kernel_rfl
@[simp] theorem tt61 : tt 61 = some ⟨1, 8, [Value.nilFunc], D.other, true⟩ := by kernel_rfl
@[simp] theorem tt62 : tt 62 = some ⟨1, 8, [Value.nilFunc], D.other, true⟩ := by kernel_rfl
@[simp] theorem tt63 : tt 63 = some ⟨1, 8, [Value.nilFunc], D.other, true⟩ := by kernel_rfl
@[simp] theorem tt64 : tt 64 = some ⟨10, 96, [Value.int IntKind.u64 (0), Value.int IntKind.u64 (0), Value.int IntKind.u64 (0), Value.int IntKind.u64 (0), Value.int IntKind.u64 (0), Value.int IntKind.u64 (0), Value.int IntKind.u64 (0), Value.int IntKind.u64 (0), Value.int IntKind.u64 (0), Value.slice none 0 0], D.struct [(0, 26), (1, 26), (2, 26), (3, 26), (4, 26), (5, 26), (6, 26), (7, 26), (8, 26), (9, 31)], true⟩ := by kernel_rfl
@[simp] theorem tt65 : tt 65 = some ⟨10, 96, [Value.int IntKind.u64 (0), Value.int IntKind.u64 (0), Value.int IntKind.u64 (0), Value.int IntKind.u64 (0), Value.int IntKind.u64 (0), Value.int IntKind.u64 (0), Value.int IntKind.u64 (0), Value.int IntKind.u64 (0), Value.int IntKind.u64 (0), Value.slice none 0 0], D.struct [(0, 26), (1, 26), (2, 26), (3, 26), (4, 26), (5, 26), (6, 26), (7, 26), (8, 26), (9, 31)], true⟩ := by kernel_rfl
@[simp] theorem tt66 : tt 66 = some ⟨1, 8, [Value.nilFunc], D.other, true⟩ := by kernel_rfl
@[simp] theorem tt67 : tt 67 = some ⟨9, 72, [Value.int IntKind.u64 (0), Value.int IntKind.u64 (0), Value.int IntKind.u64 (0), Value.int IntKind.u64 (0), Value.int IntKind.u64 (0), Value.int IntKind.u64 (0), Value.int IntKind.u64 (0), Value.int IntKind.u64 (0), Value.int IntKind.u64 (0)], D.array 9 26, true⟩ := by kernel_rfl
@[simp] theorem tt68 : tt 68 = some ⟨1, 8, [Value.nilFunc], D.other, true⟩ := by kernel_rfl
@[simp] theorem tt69 : tt 69 = some ⟨1, 8, [Value.nilFunc], D.other, true⟩ := by kernel_rfl
@[simp] theorem tt70 : tt 70 = some ⟨1, 8, [Value.pointer none], D.pointer 110, true⟩ := by kernel_rfl
@[simp] theorem tt71 : tt 71 = some ⟨1, 8, [Value.nilFunc], D.other, true⟩ := by kernel_rfl
@[simp] theorem tt72 : tt 72 = some ⟨1, 8, [Value.nilFunc], D.other, true⟩ := by kernel_rfl
@[simp] theorem tt73 : tt 73 = some ⟨1, 8, [Value.nilFunc], D.other, true⟩ := by kernel_rfl
@[simp] theorem tt74 : tt 74 = some ⟨1, 8, [Value.nilFunc], D.other, true⟩ := by kernel_rfl
@[simp] theorem tt75 : tt 75 = some ⟨1, 8, [Value.nilFunc], D.other, true⟩ := by kernel_rfl
@[simp] theorem tt76 : tt 76 = some ⟨1, 8, [Value.nilFunc], D.other, true⟩ := by kernel_rfl
@[simp] theorem tt77 : tt 77 = some ⟨1, 8, [Value.nilFunc], D.other, true⟩ := by kernel_rfl
@[simp] theorem tt78 : tt 78 = some ⟨1, 8, [Value.nilFunc], D.other, true⟩ := by kernel_rfl
@[simp] theorem tt79 : tt 79 = some ⟨1, 24, [Value.slice none 0 0], D.slice 82, true⟩ := by kernel_rfl
@[simp] theorem tt80 : tt 80 = some ⟨1, 1, [Value.int IntKind.u8 (0)], D.int IntKind.u8, true⟩ := by kernel_rfl
@[simp] theorem tt81 : tt 81 = some ⟨4, 64, [Value.int IntKind.u8 (0), Value.int IntKind.u64 (0), Value.slice none 0 0, Value.slice none 0 0], D.struct [(0, 80), (1, 26), (2, 46), (3, 31)], true⟩ := by kernel_rfl
@[simp] theorem tt82 : tt 82 = some ⟨4, 64, [Value.int IntKind.u8 (0), Value.int IntKind.u64 (0), Value.slice none 0 0, Value.slice none 0 0], D.struct [(0, 80), (1, 26), (2, 46), (3, 31)], true⟩ := by kernel_rfl
@[simp] theorem tt83 : tt 83 = some ⟨1, 8, [Value.nilFunc], D.other, true⟩ := by kernel_rfl
@[simp] theorem tt84 : tt 84 = some ⟨1, 8, [Value.nilFunc], D.other, true⟩ := by kernel_rfl
@[simp] theorem tt85 : tt 85 = some ⟨1, 8, [Value.nilFunc], D.other, true⟩ := by kernel_rfl
@[simp] theorem tt86 : tt 86 = some ⟨1, 8, [Value.nilFunc], D.other, true⟩ := by kernel_rfl
@[simp] theorem tt87 : tt 87 = some ⟨1, 8, [Value.nilFunc], D.other, true⟩ := by kernel_rfl
@[simp] theorem tt88 : tt 88 = some ⟨1, 8, [Value.nilFunc], D.other, true⟩ := by kernel_rfl
@[simp] theorem tt89 : tt 89 = some ⟨1, 8, [Value.pointer none], D.pointer 132, true⟩ := by kernel_rfl
@[simp] theorem tt90 : tt 90 = some ⟨1, 8, [Value.nilFunc], D.other, true⟩ := by kernel_rfl
@[simp] theorem tt91 : tt 91 = some ⟨1, 8, [Value.nilFunc], D.other, true⟩ := by kernel_rfl
@[simp] theorem tt92 : tt 92 = some ⟨32, 32, [Value.int IntKind.u8 (0), Value.int IntKind.u8 (0), Value.int IntKind.u8 (0), Value.int IntKind.u8 (0), Value.int IntKind.u8 (0), Value.int IntKind.u8 (0), Value.int IntKind.u8 (0), Value.int IntKind.u8 (0), Value.int IntKind.u8 (0), Value.int IntKind.u8 (0), Value.int IntKind.u8 (0), Value.int IntKind.u8 (0), Value.int IntKind.u8 (0), Value.int IntKind.u8 (0), Value.int IntKind.u8 (0), Value.int IntKind.u8 (0), Value.int IntKind.u8 (0), Value.int IntKind.u8 (0), Value.int IntKind.u8 (0), Value.int IntKind.u8 (0), Value.int IntKind.u8 (0), Value.int IntKind.u8 (0), Value.int IntKind.u8 (0), Value.int IntKind.u8 (0), Value.int IntKind.u8 (0), Value.int IntKind.u8 (0), Value.int IntKind.u8 (0), Value.int IntKind.u8 (0), Value.int IntKind.u8 (0), Value.int IntKind.u8 (0), Value.int IntKind.u8 (0), Value.int IntKind.u8 (0)], D.array 32 5, true⟩ := by kernel_rfl
@[simp] theorem tt93 : tt 93 = some ⟨1, 8, [Value.nilFunc], D.other, true⟩ := by kernel_rfl
@[simp] theorem tt94 : tt 94 = some ⟨1, 24, [Value.slice none 0 0], D.slice 31, true⟩ := by kernel_rfl
@[simp] theorem tt95 : tt 95 = some ⟨1, 8, [Value.nilFunc], D.other, true⟩ := by kernel_rfl
@[simp] theorem tt96 : tt 96 = some ⟨1, 8, [Value.nilFunc], D.other, true⟩ := by kernel_rfl
@[simp] theorem tt97 : tt 97 = some ⟨1, 8, [Value.nilFunc], D.other, true⟩ := by kernel_rfl
@[simp] theorem tt98 : tt 98 = some ⟨1, 8, [Value.nilFunc], D.other, true⟩ := by kernel_rfl
@[simp] theorem tt99 : tt 99 = some ⟨1, 8, [Value.nilFunc], D.other, true⟩ := by kernel_rfl
@[simp] theorem tt100 : tt 100 = some ⟨1, 1, [Value.int IntKind.u8 (0)], D.int IntKind.u8, true⟩ := by kernel_rfl
@[simp] theorem tt101 : tt 101 = some ⟨1, 24, [Value.slice none 0 0], D.slice 56, true⟩ := by kernel_rfl
@[simp] theorem tt102 : tt 102 = some ⟨15, 80, [Value.int IntKind.u64 (0), Value.int IntKind.u8 (0), Value.int IntKind.u64 (0), Value.int IntKind.u64 (0), Value.int IntKind.u8 (0), Value.int IntKind.u8 (0), Value.int IntKind.u8 (0), Value.int IntKind.u8 (0), Value.int IntKind.u8 (0), Value.int IntKind.u8 (0), Value.int IntKind.u8 (0), Value.int IntKind.u8 (0), Value.int IntKind.u64 (0), Value.bool false, Value.slice none 0 0], D.struct [(0, 26), (1, 100), (2, 26), (3, 26), (4, 56), (12, 26), (13, 4), (14, 101)], true⟩ := by kernel_rfl
@[simp] theorem tt103 : tt 103 = some ⟨15, 80, [Value.int IntKind.u64 (0), Value.int IntKind.u8 (0), Value.int IntKind.u64 (0), Value.int IntKind.u64 (0), Value.int IntKind.u8 (0), Value.int IntKind.u8 (0), Value.int IntKind.u8 (0), Value.int IntKind.u8 (0), Value.int IntKind.u8 (0), Value.int IntKind.u8 (0), Value.int IntKind.u8 (0), Value.int IntKind.u8 (0), Value.int IntKind.u64 (0), Value.bool false, Value.slice none 0 0], D.struct [(0, 26), (1, 100), (2, 26), (3, 26), (4, 56), (12, 26), (13, 4), (14, 101)], true⟩ := by kernel_rfl
@[simp] theorem tt104 : tt 104 = some ⟨1, 8, [Value.int IntKind.u64 (0)], D.int IntKind.u64, true⟩ := by kernel_rfl
@[simp] theorem tt105 : tt 105 = some ⟨1, 24, [Value.slice none 0 0], D.slice 109, true⟩ := by kernel_rfl
@[simp] theorem tt106 : tt 106 = some ⟨1, 8, [Value.nilFunc], D.other, true⟩ := by kernel_rfl
@[simp] theorem tt107 : tt 107 = some ⟨1, 8, [Value.pointer none], D.pointer 26, true⟩ := by kernel_rfl
@[simp] theorem tt108 : tt 108 = some ⟨2, 16, [Value.int IntKind.u64 (0), Value.pointer none], D.struct [(0, 26), (1, 107)], true⟩ := by kernel_rfl
@[simp] theorem tt109 : tt 109 = some ⟨2, 16, [Value.int IntKind.u64 (0), Value.pointer none], D.struct [(0, 26), (1, 107)], true⟩ := by kernel_rfl
@[simp] theorem tt110 : tt 110 = some ⟨2, 32, [Value.slice none 0 0, Value.int IntKind.i64 (0)], D.struct [(0, 31), (1, 33)], true⟩ := by kernel_rfl
@[simp] theorem tt111 : tt 111 = some ⟨1, 8, [Value.nilFunc], D.other, true⟩ := by kernel_rfl
@[simp] theorem tt112 : tt 112 = some ⟨1, 24, [Value.slice none 0 0], D.slice 9, true⟩ := by kernel_rfl
@[simp] theorem tt113 : tt 113 = some ⟨3, 48, [Value.string { data := { toList := [] } }, Value.slice none 0 0, Value.bool false], D.struct [(0, 9), (1, 112), (2, 4)], true⟩ := by kernel_rfl
@[simp] theorem tt114 : tt 114 = some ⟨3, 48, [Value.string { data := { toList := [] } }, Value.slice none 0 0, Value.bool false], D.struct [(0, 9), (1, 112), (2, 4)], true⟩ := by kernel_rfl
@[simp] theorem tt115 : tt 115 = some ⟨1, 0, [Value.tuple { toList := [Value.agg { toList := [Value.string { data := { toList := [] } }, Value.slice none 0 0, Value.bool false] }, Value.bool false] }], D.other, true⟩ := by kernel_rfl
@[simp] theorem tt116 : tt 116 = some ⟨1, 8, [Value.nilFunc], D.other, true⟩ := by kernel_rfl
@[simp] theorem tt117 : tt 117 = some ⟨0, 0, [], D.struct [], true⟩ := by kernel_rfl
@[simp] theorem tt118 : tt 118 = some ⟨0, 0, [], D.struct [], true⟩ := by kernel_rfl
@[simp] theorem tt119 : tt 119 = some ⟨0, 0, [], D.struct [], true⟩ := by kernel_rfl
@[simp] theorem tt120 : tt 120 = some ⟨1, 4, [Value.int IntKind.u32 (0)], D.int IntKind.u32, true⟩ := by kernel_rfl
@[simp] theorem tt121 : tt 121 = some ⟨1, 4, [Value.int IntKind.u32 (0)], D.struct [(0, 119), (0, 120)], false⟩ := by kernel_rfl
@[simp] theorem tt122 : tt 122 = some ⟨1, 4, [Value.int IntKind.u32 (0)], D.struct [(0, 119), (0, 120)], false⟩ := by kernel_rfl
@[simp] theorem tt123 : tt 123 = some ⟨2, 8, [Value.int IntKind.i32 (0), Value.int IntKind.u32 (0)], D.struct [(0, 21), (1, 120)], true⟩ := by kernel_rfl
@[simp] theorem tt124 : tt 124 = some ⟨2, 8, [Value.int IntKind.i32 (0), Value.int IntKind.u32 (0)], D.struct [(0, 21), (1, 120)], true⟩ := by kernel_rfl
@[simp] theorem tt125 : tt 125 = some ⟨2, 8, [Value.int IntKind.i32 (0), Value.int IntKind.u32 (0)], D.struct [(0, 118), (0, 124)], false⟩ := by kernel_rfl
@[simp] theorem tt126 : tt 126 = some ⟨2, 8, [Value.int IntKind.i32 (0), Value.int IntKind.u32 (0)], D.struct [(0, 118), (0, 124)], false⟩ := by kernel_rfl
@[simp] theorem tt127 : tt 127 = some ⟨3, 12, [Value.int IntKind.u32 (0), Value.int IntKind.i32 (0), Value.int IntKind.u32 (0)], D.struct [(0, 118), (0, 122), (1, 126)], false⟩ := by kernel_rfl
@[simp] theorem tt128 : tt 128 = some ⟨3, 12, [Value.int IntKind.u32 (0), Value.int IntKind.i32 (0), Value.int IntKind.u32 (0)], D.struct [(0, 118), (0, 122), (1, 126)], false⟩ := by kernel_rfl
@[simp] theorem tt129 : tt 129 = some ⟨8, 32, [Value.int IntKind.u32 (0), Value.int IntKind.u32 (0), Value.int IntKind.u32 (0), Value.int IntKind.u32 (0), Value.int IntKind.u32 (0), Value.int IntKind.u32 (0), Value.int IntKind.u32 (0), Value.int IntKind.u32 (0)], D.array 8 120, true⟩ := by kernel_rfl
@[simp] theorem tt130 : tt 130 = some ⟨64, 256, [Value.int IntKind.u32 (0), Value.int IntKind.u32 (0), Value.int IntKind.u32 (0), Value.int IntKind.u32 (0), Value.int IntKind.u32 (0), Value.int IntKind.u32 (0), Value.int IntKind.u32 (0), Value.int IntKind.u32 (0), Value.int IntKind.u32 (0), Value.int IntKind.u32 (0), Value.int IntKind.u32 (0), Value.int IntKind.u32 (0), Value.int IntKind.u32 (0), Value.int IntKind.u32 (0), Value.int IntKind.u32 (0), Value.int IntKind.u32 (0), Value.int IntKind.u32 (0), Value.int IntKind.u32 (0), Value.int IntKind.u32 (0), Value.int IntKind.u32 (0), Value.int IntKind.u32 (0), Value.int IntKind.u32 (0), Value.int IntKind.u32 (0), Value.int IntKind.u32 (0), Value.int IntKind.u32 (0), Value.int IntKind.u32 (0), Value.int IntKind.u32 (0), Value.int IntKind.u32 (0), Value.int IntKind.u32 (0), Value.int IntKind.u32 (0), Value.int IntKind.u32 (0), Value.int IntKind.u32 (0), Value.int IntKind.u32 (0), Value.int IntKind.u32 (0), Value.int IntKind.u32 (0), Value.int IntKind.u32 (0), Value.int IntKind.u32 (0), Value.int IntKind.u32 (0), Value.int IntKind.u32 (0), Value.int IntKind.u32 (0), Value.int IntKind.u32 (0), Value.int IntKind.u32 (0), Value.int IntKind.u32 (0), Value.int IntKind.u32 (0), Value.int IntKind.u32 (0), Value.int IntKind.u32 (0), Value.int IntKind.u32 (0), Value.int IntKind.u32 (0), Value.int IntKind.u32 (0), Value.int IntKind.u32 (0), Value.int IntKind.u32 (0), Value.int IntKind.u32 (0), Value.int IntKind.u32 (0), Value.int IntKind.u32 (0), Value.int IntKind.u32 (0), Value.int IntKind.u32 (0), Value.int IntKind.u32 (0), Value.int IntKind.u32 (0), Value.int IntKind.u32 (0), Value.int IntKind.u32 (0), Value.int IntKind.u32 (0), Value.int IntKind.u32 (0), Value.int IntKind.u32 (0), Value.int IntKind.u32 (0)], D.array 64 120, true⟩ := by kernel_rfl
@[simp] theorem tt131 : tt 131 = some ⟨75, 300, [Value.int IntKind.u32 (0), Value.int IntKind.i32 (0), Value.int IntKind.u32 (0), Value.int IntKind.u32 (0), Value.int IntKind.u32 (0), Value.int IntKind.u32 (0), Value.int IntKind.u32 (0), Value.int IntKind.u32 (0), Value.int IntKind.u32 (0), Value.int IntKind.u32 (0), Value.int IntKind.u32 (0), Value.int IntKind.u32 (0), Value.int IntKind.u32 (0), Value.int IntKind.u32 (0), Value.int IntKind.u32 (0), Value.int IntKind.u32 (0), Value.int IntKind.u32 (0), Value.int IntKind.u32 (0), Value.int IntKind.u32 (0), Value.int IntKind.u32 (0), Value.int IntKind.u32 (0), Value.int IntKind.u32 (0), Value.int IntKind.u32 (0), Value.int IntKind.u32 (0), Value.int IntKind.u32 (0), Value.int IntKind.u32 (0), Value.int IntKind.u32 (0), Value.int IntKind.u32 (0), Value.int IntKind.u32 (0), Value.int IntKind.u32 (0), Value.int IntKind.u32 (0), Value.int IntKind.u32 (0), Value.int IntKind.u32 (0), Value.int IntKind.u32 (0), Value.int IntKind.u32 (0), Value.int IntKind.u32 (0), Value.int IntKind.u32 (0), Value.int IntKind.u32 (0), Value.int IntKind.u32 (0), Value.int IntKind.u32 (0), Value.int IntKind.u32 (0), Value.int IntKind.u32 (0), Value.int IntKind.u32 (0), Value.int IntKind.u32 (0), Value.int IntKind.u32 (0), Value.int IntKind.u32 (0), Value.int IntKind.u32 (0), Value.int IntKind.u32 (0), Value.int IntKind.u32 (0), Value.int IntKind.u32 (0), Value.int IntKind.u32 (0), Value.int IntKind.u32 (0), Value.int IntKind.u32 (0), Value.int IntKind.u32 (0), Value.int IntKind.u32 (0), Value.int IntKind.u32 (0), Value.int IntKind.u32 (0), Value.int IntKind.u32 (0), Value.int IntKind.u32 (0), Value.int IntKind.u32 (0), Value.int IntKind.u32 (0), Value.int IntKind.u32 (0), Value.int IntKind.u32 (0), Value.int IntKind.u32 (0), Value.int IntKind.u32 (0), Value.int IntKind.u32 (0), Value.int IntKind.u32 (0), Value.int IntKind.u32 (0), Value.int IntKind.u32 (0), Value.int IntKind.u32 (0), Value.int IntKind.u32 (0), Value.int IntKind.u32 (0), Value.int IntKind.u32 (0), Value.int IntKind.u32 (0), Value.int IntKind.u32 (0)], D.struct [(0, 128), (3, 129), (11, 130)], true⟩ := by kernel_rfl
@[simp] theorem tt132 : tt 132 = some ⟨75, 300, [Value.int IntKind.u32 (0), Value.int IntKind.i32 (0), Value.int IntKind.u32 (0), Value.int IntKind.u32 (0), Value.int IntKind.u32 (0), Value.int IntKind.u32 (0), Value.int IntKind.u32 (0), Value.int IntKind.u32 (0), Value.int IntKind.u32 (0), Value.int IntKind.u32 (0), Value.int IntKind.u32 (0), Value.int IntKind.u32 (0), Value.int IntKind.u32 (0), Value.int IntKind.u32 (0), Value.int IntKind.u32 (0), Value.int IntKind.u32 (0), Value.int IntKind.u32 (0), Value.int IntKind.u32 (0), Value.int IntKind.u32 (0), Value.int IntKind.u32 (0), Value.int IntKind.u32 (0), Value.int IntKind.u32 (0), Value.int IntKind.u32 (0), Value.int IntKind.u32 (0), Value.int IntKind.u32 (0), Value.int IntKind.u32 (0), Value.int IntKind.u32 (0), Value.int IntKind.u32 (0), Value.int IntKind.u32 (0), Value.int IntKind.u32 (0), Value.int IntKind.u32 (0), Value.int IntKind.u32 (0), Value.int IntKind.u32 (0), Value.int IntKind.u32 (0), Value.int IntKind.u32 (0), Value.int IntKind.u32 (0), Value.int IntKind.u32 (0), Value.int IntKind.u32 (0), Value.int IntKind.u32 (0), Value.int IntKind.u32 (0), Value.int IntKind.u32 (0), Value.int IntKind.u32 (0), Value.int IntKind.u32 (0), Value.int IntKind.u32 (0), Value.int IntKind.u32 (0), Value.int IntKind.u32 (0), Value.int IntKind.u32 (0), Value.int IntKind.u32 (0), Value.int IntKind.u32 (0), Value.int IntKind.u32 (0), Value.int IntKind.u32 (0), Value.int IntKind.u32 (0), Value.int IntKind.u32 (0), Value.int IntKind.u32 (0), Value.int IntKind.u32 (0), Value.int IntKind.u32 (0), Value.int IntKind.u32 (0), Value.int IntKind.u32 (0), Value.int IntKind.u32 (0), Value.int IntKind.u32 (0), Value.int IntKind.u32 (0), Value.int IntKind.u32 (0), Value.int IntKind.u32 (0), Value.int IntKind.u32 (0), Value.int IntKind.u32 (0), Value.int IntKind.u32 (0), Value.int IntKind.u32 (0), Value.int IntKind.u32 (0), Value.int IntKind.u32 (0), Value.int IntKind.u32 (0), Value.int IntKind.u32 (0), Value.int IntKind.u32 (0), Value.int IntKind.u32 (0), Value.int IntKind.u32 (0), Value.int IntKind.u32 (0)], D.struct [(0, 128), (3, 129), (11, 130)], true⟩ := by kernel_rfl
@[simp] theorem tt133 : tt 133 = some ⟨1, 24, [Value.slice none 0 0], D.slice 120, true⟩ := by kernel_rfl
@[simp] theorem tt134 : tt 134 = some ⟨1, 8, [Value.nilFunc], D.other, true⟩ := by kernel_rfl
@[simp] theorem tt135 : tt 135 = some ⟨1, 8, [Value.nilFunc], D.other, true⟩ := by kernel_rfl
@[simp] theorem tt136 : tt 136 = some ⟨1, 8, [Value.nilFunc], D.other, true⟩ := by kernel_rfl
@[simp] theorem tt137 : tt 137 = some ⟨1, 8, [Value.nilFunc], D.other, true⟩ := by kernel_rfl
@[simp] theorem tt138 : tt 138 = some ⟨1, 8, [Value.pointer none], D.pointer 129, true⟩ := by kernel_rfl
@[simp] theorem tt139 : tt 139 = some ⟨1, 8, [Value.pointer none], D.pointer 65, true⟩ := by kernel_rfl
@[simp] theorem tt140 : tt 140 = some ⟨1, 8, [Value.nilFunc], D.other, true⟩ := by kernel_rfl
@[simp] theorem tt141 : tt 141 = some ⟨1, 0, [Value.tuple { toList := [Value.int IntKind.i64 (0), Value.bool false] }], D.other, true⟩ := by kernel_rfl
@[simp] theorem tt142 : tt 142 = some ⟨1, 8, [Value.nilFunc], D.other, true⟩ := by kernel_rfl
@[simp] theorem tt143 : tt 143 = some ⟨1, 24, [Value.slice none 0 0], D.slice 114, true⟩ := by kernel_rfl
@[simp] theorem tt144 : tt 144 = some ⟨1, 8, [Value.nilFunc], D.other, true⟩ := by kernel_rfl
@[simp] theorem tt145 : tt 145 = some ⟨1, 8, [Value.pointer none], D.pointer 128, true⟩ := by kernel_rfl
@[simp] theorem tt146 : tt 146 = some ⟨1, 8, [Value.nilFunc], D.other, true⟩ := by kernel_rfl
@[simp] theorem tt147 : tt 147 = some ⟨1, 8, [Value.nilFunc], D.other, true⟩ := by kernel_rfl
@[simp] theorem tt148 : tt 148 = some ⟨1, 24, [Value.slice none 0 0], D.slice 112, true⟩ := by kernel_rfl
@[simp] theorem tt149 : tt 149 = some ⟨1, 8, [Value.nilFunc], D.other, true⟩ := by kernel_rfl
@[simp] theorem tt150 : tt 150 = some ⟨1, 8, [Value.pointer none], D.pointer 122, true⟩ := by kernel_rfl
@[simp] theorem tt151 : tt 151 = some ⟨1, 8, [Value.nilFunc], D.other, true⟩ := by kernel_rfl
@[simp] theorem tt152 : tt 152 = some ⟨1, 8, [Value.pointer none], D.pointer 120, true⟩ := by kernel_rfl
@[simp] theorem tt153 : tt 153 = some ⟨1, 8, [Value.nilFunc], D.other, true⟩ := by kernel_rfl
@[simp] theorem tt154 : tt 154 = some ⟨1, 8, [Value.nilFunc], D.other, true⟩ := by kernel_rfl
@[simp] theorem tt155 : tt 155 = some ⟨1, 8, [Value.pointer none], D.pointer 126, true⟩ := by kernel_rfl
@[simp] theorem tt156 : tt 156 = some ⟨1, 8, [Value.nilFunc], D.other, true⟩ := by kernel_rfl
@[simp] theorem tt157 : tt 157 = some ⟨1, 8, [Value.nilFunc], D.other, true⟩ := by kernel_rfl
@[simp] theorem tt158 : tt 158 = some ⟨1, 0, [Value.tuple { toList := [Value.int IntKind.u64 (0), Value.int IntKind.u64 (0)] }], D.other, true⟩ := by kernel_rfl
@[simp] theorem tt159 : tt 159 = some ⟨1, 8, [Value.nilFunc], D.other, true⟩ := by kernel_rfl
@[simp] theorem tt160 : tt 160 = some ⟨1, 8, [Value.nilFunc], D.other, true⟩ := by kernel_rfl
@[simp] theorem tt161 : tt 161 = some ⟨1, 8, [Value.pointer none], D.pointer 124, true⟩ := by kernel_rfl
@[simp] theorem tt162 : tt 162 = some ⟨1, 8, [Value.nilFunc], D.other, true⟩ := by kernel_rfl
@[simp] theorem tt163 : tt 163 = some ⟨1, 8, [Value.pointer none], D.pointer 21, true⟩ := by kernel_rfl
@[simp] theorem tt164 : tt 164 = some ⟨1, 8, [Value.nilFunc], D.other, true⟩ := by kernel_rfl
@[simp] theorem tt165 : tt 165 = some ⟨1, 8, [Value.pointer none], D.other, true⟩ := by kernel_rfl
@[simp] theorem tt166 : tt 166 = some ⟨1, 8, [Value.nilFunc], D.other, true⟩ := by kernel_rfl
@[simp] theorem tt167 : tt 167 = some ⟨1, 8, [Value.nilFunc], D.other, true⟩ := by kernel_rfl
@[simp] theorem tt168 : tt 168 = some ⟨1, 8, [Value.nilFunc], D.other, true⟩ := by kernel_rfl
@[simp] theorem tt169 : tt 169 = some ⟨1, 8, [Value.nilFunc], D.other, true⟩ := by kernel_rfl
@[simp] theorem tt170 : tt 170 = some ⟨1, 8, [Value.nilFunc], D.other, true⟩ := by kernel_rfl
@[simp] theorem tt171 : tt 171 = some ⟨1, 8, [Value.nilFunc], D.other, true⟩ := by kernel_rfl
@[simp] theorem tt172 : tt 172 = some ⟨1, 8, [Value.nilFunc], D.other, true⟩ := by kernel_rfl
@[simp] theorem tt173 : tt 173 = some ⟨4, 40, [Value.pointer none, Value.pointer none, Value.pointer none, Value.string { data := { toList := [] } }], D.struct [(0, 17), (1, 17), (2, 17), (3, 9)], false⟩ := by kernel_rfl
@[simp] theorem tt174 : tt 174 = some ⟨4, 40, [Value.pointer none, Value.pointer none, Value.pointer none, Value.string { data := { toList := [] } }], D.struct [(0, 17), (1, 17), (2, 17), (3, 9)], false⟩ := by kernel_rfl
@[simp] theorem tt175 : tt 175 = some ⟨0, 0, [], D.array 0 16, true⟩ := by kernel_rfl
@[simp] theorem tt176 : tt 176 = some ⟨0, 0, [], D.struct [(0, 175)], false⟩ := by kernel_rfl
@[simp] theorem tt177 : tt 177 = some ⟨0, 0, [], D.struct [(0, 175)], false⟩ := by kernel_rfl
@[simp] theorem tt178 : tt 178 = some ⟨1, 1, [Value.int IntKind.u8 (0)], D.int IntKind.u8, true⟩ := by kernel_rfl
@[simp] theorem tt179 : tt 179 = some ⟨1, 1, [Value.int IntKind.u8 (0)], D.int IntKind.u8, true⟩ := by kernel_rfl
@[simp] theorem tt180 : tt 180 = some ⟨1, 8, [Value.nilFunc], D.other, true⟩ := by kernel_rfl
@[simp] theorem tt181 : tt 181 = some ⟨1, 8, [Value.pointer none], D.pointer 5, true⟩ := by kernel_rfl
@[simp] theorem tt182 : tt 182 = some ⟨1, 4, [Value.int IntKind.i32 (0)], D.int IntKind.i32, true⟩ := by kernel_rfl
@[simp] theorem tt183 : tt 183 = some ⟨1, 4, [Value.int IntKind.i32 (0)], D.int IntKind.i32, true⟩ := by kernel_rfl
@[simp] theorem tt184 : tt 184 = some ⟨11, 48, [Value.int IntKind.u64 (0), Value.int IntKind.u64 (0), Value.int IntKind.u32 (0), Value.int IntKind.u8 (0), Value.int IntKind.u8 (0), Value.int IntKind.u8 (0), Value.int IntKind.u8 (0), Value.nilFunc, Value.pointer none, Value.int IntKind.i32 (0), Value.int IntKind.i32 (0)], D.struct [(0, 12), (1, 12), (2, 120), (3, 178), (4, 5), (5, 5), (6, 179), (7, 180), (8, 181), (9, 182), (10, 183)], false⟩ := by kernel_rfl
@[simp] theorem tt185 : tt 185 = some ⟨11, 48, [Value.int IntKind.u64 (0), Value.int IntKind.u64 (0), Value.int IntKind.u32 (0), Value.int IntKind.u8 (0), Value.int IntKind.u8 (0), Value.int IntKind.u8 (0), Value.int IntKind.u8 (0), Value.nilFunc, Value.pointer none, Value.int IntKind.i32 (0), Value.int IntKind.i32 (0)], D.struct [(0, 12), (1, 12), (2, 120), (3, 178), (4, 5), (5, 5), (6, 179), (7, 180), (8, 181), (9, 182), (10, 183)], false⟩ := by kernel_rfl
@[simp] theorem tt186 : tt 186 = some ⟨1, 8, [Value.nilFunc], D.other, true⟩ := by kernel_rfl
theorem tb3 : tb 3 = some (Try.f3, bodyOf Try.f3) := by kernel_rfl
theorem call3 (B : Fns) (K : FuncId → Nat → List Nat) (n d : Nat) (args : List A) (h : List Ob) : evFn tt tb B K n (d + 1) 3 args h = evBody tt (evFn tt tb B K n d) (D1 tt (evFn tt tb B K n d)) (K 3) n Try.f3 (bodyOf Try.f3) args h := by rw [evFn, tb3]
theorem tb15 : tb 15 = some (Try.f15, bodyOf Try.f15) := by kernel_rfl
theorem call15 (B : Fns) (K : FuncId → Nat → List Nat) (n d : Nat) (args : List A) (h : List Ob) : evFn tt tb B K n (d + 1) 15 args h = evBody tt (evFn tt tb B K n d) (D1 tt (evFn tt tb B K n d)) (K 15) n Try.f15 (bodyOf Try.f15) args h := by rw [evFn, tb15]
theorem tb16 : tb 16 = some (Try.f16, bodyOf Try.f16) := by kernel_rfl
theorem call16 (B : Fns) (K : FuncId → Nat → List Nat) (n d : Nat) (args : List A) (h : List Ob) : evFn tt tb B K n (d + 1) 16 args h = evBody tt (evFn tt tb B K n d) (D1 tt (evFn tt tb B K n d)) (K 16) n Try.f16 (bodyOf Try.f16) args h := by rw [evFn, tb16]
theorem tb17 : tb 17 = some (Try.f17, bodyOf Try.f17) := by kernel_rfl
theorem call17 (B : Fns) (K : FuncId → Nat → List Nat) (n d : Nat) (args : List A) (h : List Ob) : evFn tt tb B K n (d + 1) 17 args h = evBody tt (evFn tt tb B K n d) (D1 tt (evFn tt tb B K n d)) (K 17) n Try.f17 (bodyOf Try.f17) args h := by rw [evFn, tb17]
theorem tb18 : tb 18 = some (Try.f18, bodyOf Try.f18) := by kernel_rfl
theorem call18 (B : Fns) (K : FuncId → Nat → List Nat) (n d : Nat) (args : List A) (h : List Ob) : evFn tt tb B K n (d + 1) 18 args h = evBody tt (evFn tt tb B K n d) (D1 tt (evFn tt tb B K n d)) (K 18) n Try.f18 (bodyOf Try.f18) args h := by rw [evFn, tb18]
theorem tb19 : tb 19 = some (Try.f19, bodyOf Try.f19) := by kernel_rfl
theorem call19 (B : Fns) (K : FuncId → Nat → List Nat) (n d : Nat) (args : List A) (h : List Ob) : evFn tt tb B K n (d + 1) 19 args h = evBody tt (evFn tt tb B K n d) (D1 tt (evFn tt tb B K n d)) (K 19) n Try.f19 (bodyOf Try.f19) args h := by rw [evFn, tb19]
theorem tb20 : tb 20 = some (Try.f20, bodyOf Try.f20) := by kernel_rfl
theorem call20 (B : Fns) (K : FuncId → Nat → List Nat) (n d : Nat) (args : List A) (h : List Ob) : evFn tt tb B K n (d + 1) 20 args h = evBody tt (evFn tt tb B K n d) (D1 tt (evFn tt tb B K n d)) (K 20) n Try.f20 (bodyOf Try.f20) args h := by rw [evFn, tb20]
end Go.Flat
