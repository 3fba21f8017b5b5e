/-
  The types' table. Written by a program. Conditions: none.
-/
import Derived.Test.YtgkalmmlgkaabaaGreatM3
import Derived.Test.YtgkalmmlgkaabaaGreatProg
import Derived.KernelRfl
namespace Go.Proofs.YtgkalmmlgkaabaaGreat.Am
open Go.Proofs
def ti1 : TI := ⟨1, false, [.nilf], .func, none, []⟩
theorem tiOk1 : teOf Tryz.prog 1 = some ti1 := by kernel_rfl
def ti2 : TI := ⟨1, false, [.int .i64 (0)], .int .i64, none, []⟩
theorem tiOk2 : teOf Tryz.prog 2 = some ti2 := by kernel_rfl
def ti3 : TI := ⟨1, false, [.int .i64 (0)], .int .i64, none, []⟩
theorem tiOk3 : teOf Tryz.prog 3 = some ti3 := by kernel_rfl
def ti4 : TI := ⟨1, false, [.bool false], .bool, none, []⟩
theorem tiOk4 : teOf Tryz.prog 4 = some ti4 := by kernel_rfl
def ti5 : TI := ⟨1, false, [.int .u8 (0)], .int .u8, none, []⟩
theorem tiOk5 : teOf Tryz.prog 5 = some ti5 := by kernel_rfl
def ti6 : TI := ⟨1, false, [.int .u8 (0)], .int .u8, none, []⟩
theorem tiOk6 : teOf Tryz.prog 6 = some ti6 := by kernel_rfl
def ti7 : TI := ⟨4, true, [.int .i64 (0), .int .i64 (0), .bool false, .int .u8 (0)], .struct [(0, 1, false), (1, 1, false), (2, 1, false), (3, 1, false)], (some [.int, .int, .bool, .int]), []⟩
theorem tiOk7 : teOf Tryz.prog 7 = some ti7 := by kernel_rfl
def ti8 : TI := ⟨4, true, [.int .i64 (0), .int .i64 (0), .bool false, .int .u8 (0)], .struct [(0, 1, false), (1, 1, false), (2, 1, false), (3, 1, false)], (some [.int, .int, .bool, .int]), [("Error", some 180), ("RuntimeError", some 181)]⟩
theorem tiOk8 : teOf Tryz.prog 8 = some ti8 := by kernel_rfl
def ti9 : TI := ⟨1, false, [.str []], .string, none, []⟩
theorem tiOk9 : teOf Tryz.prog 9 = some ti9 := by kernel_rfl
def ti10 : TI := ⟨1, false, [.str []], .string, none, [("Error", some 182), ("RuntimeError", some 183)]⟩
theorem tiOk10 : teOf Tryz.prog 10 = some ti10 := by kernel_rfl
def ti11 : TI := ⟨1, false, [.str []], .string, none, [("Error", some 184), ("RuntimeError", some 185)]⟩
theorem tiOk11 : teOf Tryz.prog 11 = some ti11 := by kernel_rfl
def ti12 : TI := ⟨1, false, [.int .u64 (0)], .int .u64, none, []⟩
theorem tiOk12 : teOf Tryz.prog 12 = some ti12 := by kernel_rfl
def ti13 : TI := ⟨2, true, [.str [], .int .u64 (0)], .struct [(0, 1, false), (1, 1, false)], none, []⟩
theorem tiOk13 : teOf Tryz.prog 13 = some ti13 := by kernel_rfl
def ti14 : TI := ⟨2, true, [.str [], .int .u64 (0)], .struct [(0, 1, false), (1, 1, false)], none, [("Error", some 186), ("RuntimeError", some 187)]⟩
theorem tiOk14 : teOf Tryz.prog 14 = some ti14 := by kernel_rfl
def ti15 : TI := ⟨1, false, [.nilp], .ptr, none, [("Error", some 188), ("RuntimeError", some 189)]⟩
theorem tiOk15 : teOf Tryz.prog 15 = some ti15 := by kernel_rfl
def ti16 : TI := ⟨1, false, [.nilp], .ptr, none, [("Error", some 190), ("RuntimeError", some 191)]⟩
theorem tiOk16 : teOf Tryz.prog 16 = some ti16 := by kernel_rfl
def ti17 : TI := ⟨1, false, [.nilp], .ptr, none, [("Align", some 192)]⟩
theorem tiOk17 : teOf Tryz.prog 17 = some ti17 := by kernel_rfl
def ti18 : TI := ⟨1, true, [.nilp], .struct [(0, 1, false)], none, []⟩
theorem tiOk18 : teOf Tryz.prog 18 = some ti18 := by kernel_rfl
def ti19 : TI := ⟨1, true, [.nilp], .struct [(0, 1, false)], none, [("Error", some 193), ("RuntimeError", some 194)]⟩
theorem tiOk19 : teOf Tryz.prog 19 = some ti19 := by kernel_rfl
def ti20 : TI := ⟨1, false, [.niface], .iface, none, []⟩
theorem tiOk20 : teOf Tryz.prog 20 = some ti20 := by kernel_rfl
def ti21 : TI := ⟨1, false, [.int .i32 (0)], .int .i32, none, []⟩
theorem tiOk21 : teOf Tryz.prog 21 = some ti21 := by kernel_rfl
def ti22 : TI := ⟨1, false, [.nils], .slice 9, none, []⟩
theorem tiOk22 : teOf Tryz.prog 22 = some ti22 := by kernel_rfl
def ti23 : TI := ⟨1, false, [.nilf], .func, none, []⟩
theorem tiOk23 : teOf Tryz.prog 23 = some ti23 := by kernel_rfl
def ti24 : TI := ⟨1, false, [.nilf], .func, none, []⟩
theorem tiOk24 : teOf Tryz.prog 24 = some ti24 := by kernel_rfl
def ti25 : TI := ⟨1, false, [.nilf], .func, none, []⟩
theorem tiOk25 : teOf Tryz.prog 25 = some ti25 := by kernel_rfl
def ti26 : TI := ⟨1, false, [.nilf], .func, none, []⟩
theorem tiOk26 : teOf Tryz.prog 26 = some ti26 := by kernel_rfl
def ti27 : TI := ⟨1, false, [.nils], .slice 70, none, []⟩
theorem tiOk27 : teOf Tryz.prog 27 = some ti27 := by kernel_rfl
def ti28 : TI := ⟨1, false, [.nils], .slice 74, none, []⟩
theorem tiOk28 : teOf Tryz.prog 28 = some ti28 := by kernel_rfl
def ti29 : TI := ⟨1, false, [.nils], .slice 78, none, []⟩
theorem tiOk29 : teOf Tryz.prog 29 = some ti29 := by kernel_rfl
def ti30 : TI := ⟨4, true, [.int .i64 (0), .nils, .nils, .nils], .struct [(0, 1, false), (1, 1, false), (2, 1, false), (3, 1, false)], none, []⟩
theorem tiOk30 : teOf Tryz.prog 30 = some ti30 := by kernel_rfl
def ti31 : TI := ⟨4, true, [.int .i64 (0), .nils, .nils, .nils], .struct [(0, 1, false), (1, 1, false), (2, 1, false), (3, 1, false)], none, []⟩
theorem tiOk31 : teOf Tryz.prog 31 = some ti31 := by kernel_rfl
def ti32 : TI := ⟨1, false, [.nilf], .func, none, []⟩
theorem tiOk32 : teOf Tryz.prog 32 = some ti32 := by kernel_rfl
def ti33 : TI := ⟨4, true, [.int .i64 (0), .int .i64 (0), .int .i64 (0), .int .i64 (0)], .struct [(0, 1, false), (1, 1, false), (2, 1, false), (3, 1, false)], (some [.int, .int, .int, .int]), []⟩
theorem tiOk33 : teOf Tryz.prog 33 = some ti33 := by kernel_rfl
def ti34 : TI := ⟨4, true, [.int .i64 (0), .int .i64 (0), .int .i64 (0), .int .i64 (0)], .struct [(0, 1, false), (1, 1, false), (2, 1, false), (3, 1, false)], (some [.int, .int, .int, .int]), []⟩
theorem tiOk34 : teOf Tryz.prog 34 = some ti34 := by kernel_rfl
def ti35 : TI := ⟨1, false, [.int .i64 (0)], .int .i64, none, []⟩
theorem tiOk35 : teOf Tryz.prog 35 = some ti35 := by kernel_rfl
def ti37 : TI := ⟨1, false, [.nilf], .func, none, []⟩
theorem tiOk37 : teOf Tryz.prog 37 = some ti37 := by kernel_rfl
def ti39 : TI := ⟨1, false, [.nilf], .func, none, []⟩
theorem tiOk39 : teOf Tryz.prog 39 = some ti39 := by kernel_rfl
def ti40 : TI := ⟨1, false, [.nilm], .map 9 3, none, []⟩
theorem tiOk40 : teOf Tryz.prog 40 = some ti40 := by kernel_rfl
def ti41 : TI := ⟨1, false, [.nilf], .func, none, []⟩
theorem tiOk41 : teOf Tryz.prog 41 = some ti41 := by kernel_rfl
def ti43 : TI := ⟨1, false, [.nilf], .func, none, []⟩
theorem tiOk43 : teOf Tryz.prog 43 = some ti43 := by kernel_rfl
def ti44 : TI := ⟨1, false, [.nils], .slice 3, none, []⟩
theorem tiOk44 : teOf Tryz.prog 44 = some ti44 := by kernel_rfl
def ti45 : TI := ⟨1, false, [.nils], .slice 83, none, []⟩
theorem tiOk45 : teOf Tryz.prog 45 = some ti45 := by kernel_rfl
def ti46 : TI := ⟨4, true, [.int .i64 (0), .nils, .nils, .nils], .struct [(0, 1, false), (1, 1, false), (2, 1, false), (3, 1, false)], none, []⟩
theorem tiOk46 : teOf Tryz.prog 46 = some ti46 := by kernel_rfl
def ti47 : TI := ⟨4, true, [.int .i64 (0), .nils, .nils, .nils], .struct [(0, 1, false), (1, 1, false), (2, 1, false), (3, 1, false)], none, []⟩
theorem tiOk47 : teOf Tryz.prog 47 = some ti47 := by kernel_rfl
def ti49 : TI := ⟨1, false, [.nilf], .func, none, []⟩
theorem tiOk49 : teOf Tryz.prog 49 = some ti49 := by kernel_rfl
def ti50 : TI := ⟨1, false, [.nils], .slice 88, none, []⟩
theorem tiOk50 : teOf Tryz.prog 50 = some ti50 := by kernel_rfl
def ti51 : TI := ⟨3, true, [.nils, .nils, .nils], .struct [(0, 1, false), (1, 1, false), (2, 1, false)], none, []⟩
theorem tiOk51 : teOf Tryz.prog 51 = some ti51 := by kernel_rfl
def ti52 : TI := ⟨3, true, [.nils, .nils, .nils], .struct [(0, 1, false), (1, 1, false), (2, 1, false)], none, []⟩
theorem tiOk52 : teOf Tryz.prog 52 = some ti52 := by kernel_rfl
def ti53 : TI := ⟨6, true, [.nils, .nils, .nils, .nils, .nils, .nils], .struct [(0, 1, false), (1, 3, true), (4, 1, false), (5, 1, false)], none, []⟩
theorem tiOk53 : teOf Tryz.prog 53 = some ti53 := by kernel_rfl
def ti54 : TI := ⟨6, true, [.nils, .nils, .nils, .nils, .nils, .nils], .struct [(0, 1, false), (1, 3, true), (4, 1, false), (5, 1, false)], none, []⟩
theorem tiOk54 : teOf Tryz.prog 54 = some ti54 := by kernel_rfl
def ti56 : TI := ⟨1, false, [.nilf], .func, none, []⟩
theorem tiOk56 : teOf Tryz.prog 56 = some ti56 := by kernel_rfl
def ti57 : TI := ⟨1, false, [.nilf], .func, none, []⟩
theorem tiOk57 : teOf Tryz.prog 57 = some ti57 := by kernel_rfl
def ti58 : TI := ⟨1, false, [.nils], .slice 68, none, []⟩
theorem tiOk58 : teOf Tryz.prog 58 = some ti58 := by kernel_rfl
def ti60 : TI := ⟨1, false, [.nilf], .func, none, []⟩
theorem tiOk60 : teOf Tryz.prog 60 = some ti60 := by kernel_rfl
def ti61 : TI := ⟨1, false, [.nilp], .ptr, none, [("spinnaker/spinnakerref04.claim", some 27), ("spinnaker/spinnakerref04.fault", some 49), ("spinnaker/spinnakerref04.key", some 20), ("spinnaker/spinnakerref04.kind", some 26), ("spinnaker/spinnakerref04.name", some 24), ("spinnaker/spinnakerref04.number", some 22), ("spinnaker/spinnakerref04.sign", some 23), ("spinnaker/spinnakerref04.thread", some 25), ("spinnaker/spinnakerref04.wrong", some 21)]⟩
theorem tiOk61 : teOf Tryz.prog 61 = some ti61 := by kernel_rfl
def ti62 : TI := ⟨4, true, [.nils, .int .i64 (0), .int .i64 (0), .int .i64 (0)], .struct [(0, 1, false), (1, 1, false), (2, 1, false), (3, 1, false)], none, []⟩
theorem tiOk62 : teOf Tryz.prog 62 = some ti62 := by kernel_rfl
def ti63 : TI := ⟨4, true, [.nils, .int .i64 (0), .int .i64 (0), .int .i64 (0)], .struct [(0, 1, false), (1, 1, false), (2, 1, false), (3, 1, false)], none, []⟩
theorem tiOk63 : teOf Tryz.prog 63 = some ti63 := by kernel_rfl
def ti64 : TI := ⟨1, false, [.nilf], .func, none, []⟩
theorem tiOk64 : teOf Tryz.prog 64 = some ti64 := by kernel_rfl
def ti65 : TI := ⟨1, false, [.nilf], .func, none, []⟩
theorem tiOk65 : teOf Tryz.prog 65 = some ti65 := by kernel_rfl
def ti66 : TI := ⟨1, false, [.nilf], .func, none, []⟩
theorem tiOk66 : teOf Tryz.prog 66 = some ti66 := by kernel_rfl
def ti67 : TI := ⟨4, true, [.int .i64 (0), .str [], .int .i64 (0), .int .i64 (0)], .struct [(0, 1, false), (1, 1, false), (2, 1, false), (3, 1, false)], (some [.int, .str, .int, .int]), []⟩
theorem tiOk67 : teOf Tryz.prog 67 = some ti67 := by kernel_rfl
def ti68 : TI := ⟨4, true, [.int .i64 (0), .str [], .int .i64 (0), .int .i64 (0)], .struct [(0, 1, false), (1, 1, false), (2, 1, false), (3, 1, false)], (some [.int, .str, .int, .int]), []⟩
theorem tiOk68 : teOf Tryz.prog 68 = some ti68 := by kernel_rfl
def ti69 : TI := ⟨3, true, [.str [], .int .i64 (0), .int .i64 (0)], .struct [(0, 1, false), (1, 1, false), (2, 1, false)], (some [.str, .int, .int]), []⟩
theorem tiOk69 : teOf Tryz.prog 69 = some ti69 := by kernel_rfl
def ti70 : TI := ⟨3, true, [.str [], .int .i64 (0), .int .i64 (0)], .struct [(0, 1, false), (1, 1, false), (2, 1, false)], (some [.str, .int, .int]), []⟩
theorem tiOk70 : teOf Tryz.prog 70 = some ti70 := by kernel_rfl
def ti71 : TI := ⟨1, false, [.nilf], .func, none, []⟩
theorem tiOk71 : teOf Tryz.prog 71 = some ti71 := by kernel_rfl
def ti72 : TI := ⟨1, false, [.nils], .slice 200, none, []⟩
theorem tiOk72 : teOf Tryz.prog 72 = some ti72 := by kernel_rfl
def ti73 : TI := ⟨4, true, [.str [], .nils, .nils, .int .i64 (0)], .struct [(0, 1, false), (1, 1, false), (2, 1, false), (3, 1, false)], none, []⟩
theorem tiOk73 : teOf Tryz.prog 73 = some ti73 := by kernel_rfl
def ti74 : TI := ⟨4, true, [.str [], .nils, .nils, .int .i64 (0)], .struct [(0, 1, false), (1, 1, false), (2, 1, false), (3, 1, false)], none, []⟩
theorem tiOk74 : teOf Tryz.prog 74 = some ti74 := by kernel_rfl
def ti75 : TI := ⟨1, false, [.nilf], .func, none, []⟩
theorem tiOk75 : teOf Tryz.prog 75 = some ti75 := by kernel_rfl
def ti76 : TI := ⟨1, false, [.nils], .slice 125, none, []⟩
theorem tiOk76 : teOf Tryz.prog 76 = some ti76 := by kernel_rfl
def ti77 : TI := ⟨3, true, [.int .i64 (0), .nils, .int .i64 (0)], .struct [(0, 1, false), (1, 1, false), (2, 1, false)], none, []⟩
theorem tiOk77 : teOf Tryz.prog 77 = some ti77 := by kernel_rfl
def ti78 : TI := ⟨3, true, [.int .i64 (0), .nils, .int .i64 (0)], .struct [(0, 1, false), (1, 1, false), (2, 1, false)], none, []⟩
theorem tiOk78 : teOf Tryz.prog 78 = some ti78 := by kernel_rfl
def ti79 : TI := ⟨1, false, [.nilf], .func, none, []⟩
theorem tiOk79 : teOf Tryz.prog 79 = some ti79 := by kernel_rfl
def ti81 : TI := ⟨1, false, [.nilf], .func, none, []⟩
theorem tiOk81 : teOf Tryz.prog 81 = some ti81 := by kernel_rfl
def ti82 : TI := ⟨1, false, [.nilf], .func, none, []⟩
theorem tiOk82 : teOf Tryz.prog 82 = some ti82 := by kernel_rfl
def ti83 : TI := ⟨1, false, [.nils], .slice 141, none, []⟩
theorem tiOk83 : teOf Tryz.prog 83 = some ti83 := by kernel_rfl
def ti84 : TI := ⟨1, false, [.nilf], .func, none, []⟩
theorem tiOk84 : teOf Tryz.prog 84 = some ti84 := by kernel_rfl
def ti85 : TI := ⟨1, false, [.nils], .slice 44, none, []⟩
theorem tiOk85 : teOf Tryz.prog 85 = some ti85 := by kernel_rfl
def ti86 : TI := ⟨1, false, [.nils], .slice 151, none, []⟩
theorem tiOk86 : teOf Tryz.prog 86 = some ti86 := by kernel_rfl
def ti87 : TI := ⟨4, true, [.nils, .nils, .nils, .nils], .struct [(0, 1, false), (1, 1, false), (2, 1, false), (3, 1, false)], none, []⟩
theorem tiOk87 : teOf Tryz.prog 87 = some ti87 := by kernel_rfl
def ti88 : TI := ⟨4, true, [.nils, .nils, .nils, .nils], .struct [(0, 1, false), (1, 1, false), (2, 1, false), (3, 1, false)], none, []⟩
theorem tiOk88 : teOf Tryz.prog 88 = some ti88 := by kernel_rfl
def ti90 : TI := ⟨1, false, [.nilf], .func, none, []⟩
theorem tiOk90 : teOf Tryz.prog 90 = some ti90 := by kernel_rfl
def ti92 : TI := ⟨1, false, [.nilf], .func, none, []⟩
theorem tiOk92 : teOf Tryz.prog 92 = some ti92 := by kernel_rfl
def ti93 : TI := ⟨1, false, [.nilf], .func, none, []⟩
theorem tiOk93 : teOf Tryz.prog 93 = some ti93 := by kernel_rfl
def ti94 : TI := ⟨1, false, [.nilp], .ptr, none, [("spinnaker/explore.found", some 35)]⟩
theorem tiOk94 : teOf Tryz.prog 94 = some ti94 := by kernel_rfl
def ti95 : TI := ⟨1, false, [.nilp], .ptr, none, [("Put", some 66), ("spinnaker/intern.find", some 99), ("spinnaker/intern.grow", some 100), ("spinnaker/intern.there", some 98)]⟩
theorem tiOk95 : teOf Tryz.prog 95 = some ti95 := by kernel_rfl
def ti96 : TI := ⟨1, false, [.nilf], .func, none, []⟩
theorem tiOk96 : teOf Tryz.prog 96 = some ti96 := by kernel_rfl
def ti97 : TI := ⟨1, false, [.nils], .slice 105, none, []⟩
theorem tiOk97 : teOf Tryz.prog 97 = some ti97 := by kernel_rfl
def ti98 : TI := ⟨8, true, [.nils, .nils, .nils, .nils, .nils, .nils, .nilp, .nils], .struct [(0, 6, true), (6, 1, false), (7, 1, false)], none, []⟩
theorem tiOk98 : teOf Tryz.prog 98 = some ti98 := by kernel_rfl
def ti99 : TI := ⟨8, true, [.nils, .nils, .nils, .nils, .nils, .nils, .nilp, .nils], .struct [(0, 6, true), (6, 1, false), (7, 1, false)], none, []⟩
theorem tiOk99 : teOf Tryz.prog 99 = some ti99 := by kernel_rfl
def ti100 : TI := ⟨1, false, [.nilf], .func, none, []⟩
theorem tiOk100 : teOf Tryz.prog 100 = some ti100 := by kernel_rfl
def ti101 : TI := ⟨1, false, [.nilf], .func, none, []⟩
theorem tiOk101 : teOf Tryz.prog 101 = some ti101 := by kernel_rfl
def ti103 : TI := ⟨1, false, [.nilf], .func, none, []⟩
theorem tiOk103 : teOf Tryz.prog 103 = some ti103 := by kernel_rfl
def ti104 : TI := ⟨3, true, [.int .i64 (0), .int .i64 (0), .int .i64 (0)], .struct [(0, 1, false), (1, 1, false), (2, 1, false)], (some [.int, .int, .int]), []⟩
theorem tiOk104 : teOf Tryz.prog 104 = some ti104 := by kernel_rfl
def ti105 : TI := ⟨3, true, [.int .i64 (0), .int .i64 (0), .int .i64 (0)], .struct [(0, 1, false), (1, 1, false), (2, 1, false)], (some [.int, .int, .int]), []⟩
theorem tiOk105 : teOf Tryz.prog 105 = some ti105 := by kernel_rfl
def ti107 : TI := ⟨1, false, [.nilf], .func, none, []⟩
theorem tiOk107 : teOf Tryz.prog 107 = some ti107 := by kernel_rfl
def ti108 : TI := ⟨1, false, [.nilf], .func, none, []⟩
theorem tiOk108 : teOf Tryz.prog 108 = some ti108 := by kernel_rfl
def ti109 : TI := ⟨1, false, [.nilf], .func, none, []⟩
theorem tiOk109 : teOf Tryz.prog 109 = some ti109 := by kernel_rfl
def ti110 : TI := ⟨1, false, [.nilf], .func, none, []⟩
theorem tiOk110 : teOf Tryz.prog 110 = some ti110 := by kernel_rfl
def ti111 : TI := ⟨1, false, [.nilf], .func, none, []⟩
theorem tiOk111 : teOf Tryz.prog 111 = some ti111 := by kernel_rfl
def ti112 : TI := ⟨1, false, [.nilf], .func, none, []⟩
theorem tiOk112 : teOf Tryz.prog 112 = some ti112 := by kernel_rfl
def ti114 : TI := ⟨1, false, [.nilf], .func, none, []⟩
theorem tiOk114 : teOf Tryz.prog 114 = some ti114 := by kernel_rfl
def ti115 : TI := ⟨1, false, [.nilf], .func, none, []⟩
theorem tiOk115 : teOf Tryz.prog 115 = some ti115 := by kernel_rfl
def ti116 : TI := ⟨1, false, [.nilf], .func, none, []⟩
theorem tiOk116 : teOf Tryz.prog 116 = some ti116 := by kernel_rfl
def ti117 : TI := ⟨1, false, [.nilf], .func, none, []⟩
theorem tiOk117 : teOf Tryz.prog 117 = some ti117 := by kernel_rfl
def ti119 : TI := ⟨1, false, [.nilf], .func, none, []⟩
theorem tiOk119 : teOf Tryz.prog 119 = some ti119 := by kernel_rfl
def ti120 : TI := ⟨1, false, [.nilf], .func, none, []⟩
theorem tiOk120 : teOf Tryz.prog 120 = some ti120 := by kernel_rfl
def ti121 : TI := ⟨1, false, [.nilf], .func, none, []⟩
theorem tiOk121 : teOf Tryz.prog 121 = some ti121 := by kernel_rfl
def ti123 : TI := ⟨1, false, [.nilf], .func, none, []⟩
theorem tiOk123 : teOf Tryz.prog 123 = some ti123 := by kernel_rfl
def ti124 : TI := ⟨5, true, [.int .i64 (0), .int .i64 (0), .str [], .str [], .int .i64 (0)], .struct [(0, 1, false), (1, 1, false), (2, 1, false), (3, 1, false), (4, 1, false)], (some [.int, .int, .str, .str, .int]), []⟩
theorem tiOk124 : teOf Tryz.prog 124 = some ti124 := by kernel_rfl
def ti125 : TI := ⟨5, true, [.int .i64 (0), .int .i64 (0), .str [], .str [], .int .i64 (0)], .struct [(0, 1, false), (1, 1, false), (2, 1, false), (3, 1, false), (4, 1, false)], (some [.int, .int, .str, .str, .int]), []⟩
theorem tiOk125 : teOf Tryz.prog 125 = some ti125 := by kernel_rfl
def ti126 : TI := ⟨1, false, [.nilf], .func, none, []⟩
theorem tiOk126 : teOf Tryz.prog 126 = some ti126 := by kernel_rfl
def ti127 : TI := ⟨1, false, [.nilp], .ptr, none, [("spinnaker/legal.body", some 92), ("spinnaker/legal.claim", some 56), ("spinnaker/legal.must", some 53), ("spinnaker/legal.nodes", some 93), ("spinnaker/legal.thread", some 55), ("spinnaker/legal.vars", some 54)]⟩
theorem tiOk127 : teOf Tryz.prog 127 = some ti127 := by kernel_rfl
def ti128 : TI := ⟨1, false, [.nilm], .map 9 40, none, []⟩
theorem tiOk128 : teOf Tryz.prog 128 = some ti128 := by kernel_rfl
def ti129 : TI := ⟨8, true, [.int .i64 (0), .nils, .nils, .nils, .nilm, .nilm, .int .i64 (0), .int .i64 (0)], .struct [(0, 4, true), (4, 1, false), (5, 1, false), (6, 1, false), (7, 1, false)], none, []⟩
theorem tiOk129 : teOf Tryz.prog 129 = some ti129 := by kernel_rfl
def ti130 : TI := ⟨8, true, [.int .i64 (0), .nils, .nils, .nils, .nilm, .nilm, .int .i64 (0), .int .i64 (0)], .struct [(0, 4, true), (4, 1, false), (5, 1, false), (6, 1, false), (7, 1, false)], none, []⟩
theorem tiOk130 : teOf Tryz.prog 130 = some ti130 := by kernel_rfl
def ti131 : TI := ⟨1, false, [.nilf], .func, none, []⟩
theorem tiOk131 : teOf Tryz.prog 131 = some ti131 := by kernel_rfl
def ti132 : TI := ⟨1, false, [.nilf], .func, none, []⟩
theorem tiOk132 : teOf Tryz.prog 132 = some ti132 := by kernel_rfl
def ti133 : TI := ⟨1, false, [.nilf], .func, none, []⟩
theorem tiOk133 : teOf Tryz.prog 133 = some ti133 := by kernel_rfl
def ti134 : TI := ⟨1, false, [.nilp], .ptr, none, [("spinnaker/lower.code", some 123), ("spinnaker/lower.here", some 124), ("spinnaker/lower.hole", some 122), ("spinnaker/lower.loop", some 125), ("spinnaker/lower.one", some 95), ("spinnaker/lower.plain", some 126), ("spinnaker/lower.put", some 59), ("spinnaker/lower.some", some 57)]⟩
theorem tiOk134 : teOf Tryz.prog 134 = some ti134 := by kernel_rfl
def ti135 : TI := ⟨4, true, [.nils, .nils, .nils, .nils], .struct [(0, 1, false), (1, 1, false), (2, 1, false), (3, 1, false)], none, []⟩
theorem tiOk135 : teOf Tryz.prog 135 = some ti135 := by kernel_rfl
def ti136 : TI := ⟨4, true, [.nils, .nils, .nils, .nils], .struct [(0, 1, false), (1, 1, false), (2, 1, false), (3, 1, false)], none, []⟩
theorem tiOk136 : teOf Tryz.prog 136 = some ti136 := by kernel_rfl
def ti137 : TI := ⟨1, false, [.nilf], .func, none, []⟩
theorem tiOk137 : teOf Tryz.prog 137 = some ti137 := by kernel_rfl
def ti138 : TI := ⟨1, false, [.nilf], .func, none, []⟩
theorem tiOk138 : teOf Tryz.prog 138 = some ti138 := by kernel_rfl
def ti139 : TI := ⟨1, false, [.nils], .slice 245, none, []⟩
theorem tiOk139 : teOf Tryz.prog 139 = some ti139 := by kernel_rfl
def ti140 : TI := ⟨7, true, [.int .i64 (0), .int .i64 (0), .int .i64 (0), .nils, .nils, .bool false, .int .i64 (0)], .struct [(0, 1, false), (1, 1, false), (2, 1, false), (3, 1, false), (4, 1, false), (5, 1, false), (6, 1, false)], none, []⟩
theorem tiOk140 : teOf Tryz.prog 140 = some ti140 := by kernel_rfl
def ti141 : TI := ⟨7, true, [.int .i64 (0), .int .i64 (0), .int .i64 (0), .nils, .nils, .bool false, .int .i64 (0)], .struct [(0, 1, false), (1, 1, false), (2, 1, false), (3, 1, false), (4, 1, false), (5, 1, false), (6, 1, false)], none, []⟩
theorem tiOk141 : teOf Tryz.prog 141 = some ti141 := by kernel_rfl
def ti142 : TI := ⟨1, false, [.nilf], .func, none, []⟩
theorem tiOk142 : teOf Tryz.prog 142 = some ti142 := by kernel_rfl
def ti143 : TI := ⟨1, false, [.nilf], .func, none, []⟩
theorem tiOk143 : teOf Tryz.prog 143 = some ti143 := by kernel_rfl
def ti144 : TI := ⟨1, false, [.nilf], .func, none, []⟩
theorem tiOk144 : teOf Tryz.prog 144 = some ti144 := by kernel_rfl
def ti145 : TI := ⟨1, false, [.nilp], .ptr, none, [("spinnaker/pack.put", some 64)]⟩
theorem tiOk145 : teOf Tryz.prog 145 = some ti145 := by kernel_rfl
def ti146 : TI := ⟨1, false, [.nils], .slice 5, none, []⟩
theorem tiOk146 : teOf Tryz.prog 146 = some ti146 := by kernel_rfl
def ti147 : TI := ⟨1, false, [.nilf], .func, none, []⟩
theorem tiOk147 : teOf Tryz.prog 147 = some ti147 := by kernel_rfl
def ti148 : TI := ⟨2, true, [.nils, .int .i64 (0)], .struct [(0, 1, false), (1, 1, false)], none, []⟩
theorem tiOk148 : teOf Tryz.prog 148 = some ti148 := by kernel_rfl
def ti149 : TI := ⟨2, true, [.nils, .int .i64 (0)], .struct [(0, 1, false), (1, 1, false)], none, []⟩
theorem tiOk149 : teOf Tryz.prog 149 = some ti149 := by kernel_rfl
def ti150 : TI := ⟨1, false, [.nilf], .func, none, []⟩
theorem tiOk150 : teOf Tryz.prog 150 = some ti150 := by kernel_rfl
def ti151 : TI := ⟨1, false, [.nils], .slice 153, none, []⟩
theorem tiOk151 : teOf Tryz.prog 151 = some ti151 := by kernel_rfl
def ti152 : TI := ⟨2, true, [.int .i64 (0), .int .i64 (0)], .struct [(0, 1, false), (1, 1, false)], (some [.int, .int]), []⟩
theorem tiOk152 : teOf Tryz.prog 152 = some ti152 := by kernel_rfl
def ti153 : TI := ⟨2, true, [.int .i64 (0), .int .i64 (0)], .struct [(0, 1, false), (1, 1, false)], (some [.int, .int]), []⟩
theorem tiOk153 : teOf Tryz.prog 153 = some ti153 := by kernel_rfl
def ti154 : TI := ⟨1, false, [.nilf], .func, none, []⟩
theorem tiOk154 : teOf Tryz.prog 154 = some ti154 := by kernel_rfl
def ti155 : TI := ⟨2, true, [.nils, .nils], .struct [(0, 1, false), (1, 1, false)], none, []⟩
theorem tiOk155 : teOf Tryz.prog 155 = some ti155 := by kernel_rfl
def ti156 : TI := ⟨2, true, [.nils, .nils], .struct [(0, 1, false), (1, 1, false)], none, []⟩
theorem tiOk156 : teOf Tryz.prog 156 = some ti156 := by kernel_rfl
def ti158 : TI := ⟨1, false, [.nilf], .func, none, []⟩
theorem tiOk158 : teOf Tryz.prog 158 = some ti158 := by kernel_rfl
def ti159 : TI := ⟨1, false, [.nils], .slice 162, none, []⟩
theorem tiOk159 : teOf Tryz.prog 159 = some ti159 := by kernel_rfl
def ti160 : TI := ⟨1, false, [.nilf], .func, none, []⟩
theorem tiOk160 : teOf Tryz.prog 160 = some ti160 := by kernel_rfl
def ti161 : TI := ⟨1, false, [.niface], .iface, none, []⟩
theorem tiOk161 : teOf Tryz.prog 161 = some ti161 := by kernel_rfl
def ti162 : TI := ⟨1, false, [.niface], .iface, none, []⟩
theorem tiOk162 : teOf Tryz.prog 162 = some ti162 := by kernel_rfl
def ti163 : TI := ⟨1, false, [.nilf], .func, none, []⟩
theorem tiOk163 : teOf Tryz.prog 163 = some ti163 := by kernel_rfl
def ti164 : TI := ⟨10, true, [.int .i64 (0), .nils, .nils, .nils, .nils, .nils, .nils, .nils, .int .i64 (0), .int .i64 (0)], .struct [(0, 4, true), (4, 4, true), (8, 1, false), (9, 1, false)], none, []⟩
theorem tiOk164 : teOf Tryz.prog 164 = some ti164 := by kernel_rfl
def ti165 : TI := ⟨10, true, [.int .i64 (0), .nils, .nils, .nils, .nils, .nils, .nils, .nils, .int .i64 (0), .int .i64 (0)], .struct [(0, 4, true), (4, 4, true), (8, 1, false), (9, 1, false)], none, []⟩
theorem tiOk165 : teOf Tryz.prog 165 = some ti165 := by kernel_rfl
def ti167 : TI := ⟨1, false, [.nilf], .func, none, []⟩
theorem tiOk167 : teOf Tryz.prog 167 = some ti167 := by kernel_rfl
def ti168 : TI := ⟨1, false, [.nilf], .func, none, []⟩
theorem tiOk168 : teOf Tryz.prog 168 = some ti168 := by kernel_rfl
def ti169 : TI := ⟨1, false, [.nilf], .func, none, []⟩
theorem tiOk169 : teOf Tryz.prog 169 = some ti169 := by kernel_rfl
def ti170 : TI := ⟨1, false, [.nilf], .func, none, []⟩
theorem tiOk170 : teOf Tryz.prog 170 = some ti170 := by kernel_rfl
def ti171 : TI := ⟨1, false, [.nilf], .func, none, []⟩
theorem tiOk171 : teOf Tryz.prog 171 = some ti171 := by kernel_rfl
def ti172 : TI := ⟨1, false, [.nilf], .func, none, []⟩
theorem tiOk172 : teOf Tryz.prog 172 = some ti172 := by kernel_rfl
def ti173 : TI := ⟨1, false, [.nilf], .func, none, []⟩
theorem tiOk173 : teOf Tryz.prog 173 = some ti173 := by kernel_rfl
def ti174 : TI := ⟨1, false, [.nilf], .func, none, []⟩
theorem tiOk174 : teOf Tryz.prog 174 = some ti174 := by kernel_rfl
def ti175 : TI := ⟨1, false, [.nilf], .func, none, []⟩
theorem tiOk175 : teOf Tryz.prog 175 = some ti175 := by kernel_rfl
def ti176 : TI := ⟨1, false, [.nilf], .func, none, []⟩
theorem tiOk176 : teOf Tryz.prog 176 = some ti176 := by kernel_rfl
def ti177 : TI := ⟨1, false, [.nilf], .func, none, []⟩
theorem tiOk177 : teOf Tryz.prog 177 = some ti177 := by kernel_rfl
def ti178 : TI := ⟨4, true, [.nils, .int .i64 (0), .int .i64 (0), .int .i64 (0)], .struct [(0, 1, false), (1, 1, false), (2, 1, false), (3, 1, false)], none, []⟩
theorem tiOk178 : teOf Tryz.prog 178 = some ti178 := by kernel_rfl
def ti179 : TI := ⟨4, true, [.nils, .int .i64 (0), .int .i64 (0), .int .i64 (0)], .struct [(0, 1, false), (1, 1, false), (2, 1, false), (3, 1, false)], none, []⟩
theorem tiOk179 : teOf Tryz.prog 179 = some ti179 := by kernel_rfl
def ti180 : TI := ⟨1, false, [.nilf], .func, none, []⟩
theorem tiOk180 : teOf Tryz.prog 180 = some ti180 := by kernel_rfl
def ti181 : TI := ⟨1, false, [.nilf], .func, none, []⟩
theorem tiOk181 : teOf Tryz.prog 181 = some ti181 := by kernel_rfl
def ti182 : TI := ⟨1, false, [.nilf], .func, none, []⟩
theorem tiOk182 : teOf Tryz.prog 182 = some ti182 := by kernel_rfl
def ti183 : TI := ⟨1, false, [.nilf], .func, none, []⟩
theorem tiOk183 : teOf Tryz.prog 183 = some ti183 := by kernel_rfl
def ti184 : TI := ⟨1, false, [.nilf], .func, none, []⟩
theorem tiOk184 : teOf Tryz.prog 184 = some ti184 := by kernel_rfl
def ti185 : TI := ⟨1, false, [.nilf], .func, none, []⟩
theorem tiOk185 : teOf Tryz.prog 185 = some ti185 := by kernel_rfl
def ti187 : TI := ⟨1, false, [.nilf], .func, none, []⟩
theorem tiOk187 : teOf Tryz.prog 187 = some ti187 := by kernel_rfl
def ti188 : TI := ⟨1, false, [.nilf], .func, none, []⟩
theorem tiOk188 : teOf Tryz.prog 188 = some ti188 := by kernel_rfl
def ti189 : TI := ⟨1, false, [.nilf], .func, none, []⟩
theorem tiOk189 : teOf Tryz.prog 189 = some ti189 := by kernel_rfl
def ti190 : TI := ⟨1, false, [.nilf], .func, none, []⟩
theorem tiOk190 : teOf Tryz.prog 190 = some ti190 := by kernel_rfl
def ti191 : TI := ⟨1, false, [.nilf], .func, none, []⟩
theorem tiOk191 : teOf Tryz.prog 191 = some ti191 := by kernel_rfl
def ti192 : TI := ⟨1, false, [.nilf], .func, none, []⟩
theorem tiOk192 : teOf Tryz.prog 192 = some ti192 := by kernel_rfl
def ti193 : TI := ⟨1, false, [.nilf], .func, none, []⟩
theorem tiOk193 : teOf Tryz.prog 193 = some ti193 := by kernel_rfl
def ti194 : TI := ⟨1, false, [.int .i64 (0)], .int .i64, none, [("spinnaker/machine.act", some 195), ("spinnaker/machine.can", some 196), ("spinnaker/machine.name", some 197)]⟩
theorem tiOk194 : teOf Tryz.prog 194 = some ti194 := by kernel_rfl
def ti195 : TI := ⟨2, true, [.int .i64 (0), .int .i64 (0)], .struct [(0, 1, false), (1, 1, false)], (some [.int, .int]), []⟩
theorem tiOk195 : teOf Tryz.prog 195 = some ti195 := by kernel_rfl
def ti196 : TI := ⟨2, true, [.int .i64 (0), .int .i64 (0)], .struct [(0, 1, false), (1, 1, false)], (some [.int, .int]), [("spinnaker/machine.act", some 223), ("spinnaker/machine.can", some 224), ("spinnaker/machine.name", some 225)]⟩
theorem tiOk196 : teOf Tryz.prog 196 = some ti196 := by kernel_rfl
def ti197 : TI := ⟨1, false, [.nilf], .func, none, []⟩
theorem tiOk197 : teOf Tryz.prog 197 = some ti197 := by kernel_rfl
def ti198 : TI := ⟨1, false, [.nilf], .func, none, []⟩
theorem tiOk198 : teOf Tryz.prog 198 = some ti198 := by kernel_rfl
def ti199 : TI := ⟨9, true, [.int .i64 (0), .str [], .str [], .nils, .nils, .bool false, .int .i64 (0), .int .i64 (0), .int .i64 (0)], .struct [(0, 1, false), (1, 1, false), (2, 1, false), (3, 1, false), (4, 1, false), (5, 1, false), (6, 1, false), (7, 1, false), (8, 1, false)], none, []⟩
theorem tiOk199 : teOf Tryz.prog 199 = some ti199 := by kernel_rfl
def ti200 : TI := ⟨9, true, [.int .i64 (0), .str [], .str [], .nils, .nils, .bool false, .int .i64 (0), .int .i64 (0), .int .i64 (0)], .struct [(0, 1, false), (1, 1, false), (2, 1, false), (3, 1, false), (4, 1, false), (5, 1, false), (6, 1, false), (7, 1, false), (8, 1, false)], none, []⟩
theorem tiOk200 : teOf Tryz.prog 200 = some ti200 := by kernel_rfl
def ti202 : TI := ⟨1, false, [.nilf], .func, none, []⟩
theorem tiOk202 : teOf Tryz.prog 202 = some ti202 := by kernel_rfl
def ti203 : TI := ⟨1, false, [.nilf], .func, none, []⟩
theorem tiOk203 : teOf Tryz.prog 203 = some ti203 := by kernel_rfl
def ti204 : TI := ⟨1, false, [.nilf], .func, none, []⟩
theorem tiOk204 : teOf Tryz.prog 204 = some ti204 := by kernel_rfl
def ti205 : TI := ⟨1, false, [.nilf], .func, none, []⟩
theorem tiOk205 : teOf Tryz.prog 205 = some ti205 := by kernel_rfl
def ti206 : TI := ⟨1, false, [.nilf], .func, none, []⟩
theorem tiOk206 : teOf Tryz.prog 206 = some ti206 := by kernel_rfl
def ti207 : TI := ⟨1, false, [.nilf], .func, none, []⟩
theorem tiOk207 : teOf Tryz.prog 207 = some ti207 := by kernel_rfl
def ti208 : TI := ⟨1, false, [.nilf], .func, none, []⟩
theorem tiOk208 : teOf Tryz.prog 208 = some ti208 := by kernel_rfl
def ti209 : TI := ⟨1, false, [.nilf], .func, none, []⟩
theorem tiOk209 : teOf Tryz.prog 209 = some ti209 := by kernel_rfl
def ti210 : TI := ⟨1, false, [.nilf], .func, none, []⟩
theorem tiOk210 : teOf Tryz.prog 210 = some ti210 := by kernel_rfl
def ti211 : TI := ⟨1, false, [.nilf], .func, none, []⟩
theorem tiOk211 : teOf Tryz.prog 211 = some ti211 := by kernel_rfl
def ti212 : TI := ⟨1, false, [.nilf], .func, none, []⟩
theorem tiOk212 : teOf Tryz.prog 212 = some ti212 := by kernel_rfl
def ti213 : TI := ⟨1, false, [.nilf], .func, none, []⟩
theorem tiOk213 : teOf Tryz.prog 213 = some ti213 := by kernel_rfl
def ti214 : TI := ⟨1, false, [.nilf], .func, none, []⟩
theorem tiOk214 : teOf Tryz.prog 214 = some ti214 := by kernel_rfl
def ti215 : TI := ⟨1, false, [.nilf], .func, none, []⟩
theorem tiOk215 : teOf Tryz.prog 215 = some ti215 := by kernel_rfl
def ti216 : TI := ⟨1, false, [.nilf], .func, none, []⟩
theorem tiOk216 : teOf Tryz.prog 216 = some ti216 := by kernel_rfl
def ti217 : TI := ⟨1, false, [.int .u64 (0)], .int .u64, none, []⟩
theorem tiOk217 : teOf Tryz.prog 217 = some ti217 := by kernel_rfl
def ti218 : TI := ⟨1, false, [.nilf], .func, none, []⟩
theorem tiOk218 : teOf Tryz.prog 218 = some ti218 := by kernel_rfl
def ti219 : TI := ⟨1, false, [.nilf], .func, none, []⟩
theorem tiOk219 : teOf Tryz.prog 219 = some ti219 := by kernel_rfl
def ti220 : TI := ⟨1, false, [.nilf], .func, none, []⟩
theorem tiOk220 : teOf Tryz.prog 220 = some ti220 := by kernel_rfl
def ti221 : TI := ⟨1, false, [.nilf], .func, none, []⟩
theorem tiOk221 : teOf Tryz.prog 221 = some ti221 := by kernel_rfl
def ti222 : TI := ⟨1, false, [.nilf], .func, none, []⟩
theorem tiOk222 : teOf Tryz.prog 222 = some ti222 := by kernel_rfl
def ti224 : TI := ⟨1, false, [.nilf], .func, none, []⟩
theorem tiOk224 : teOf Tryz.prog 224 = some ti224 := by kernel_rfl
def ti225 : TI := ⟨1, false, [.nils], .slice 1, none, []⟩
theorem tiOk225 : teOf Tryz.prog 225 = some ti225 := by kernel_rfl
def ti226 : TI := ⟨1, false, [.nilf], .func, none, []⟩
theorem tiOk226 : teOf Tryz.prog 226 = some ti226 := by kernel_rfl
def ti227 : TI := ⟨6, true, [.bool false, .bool false, .bool false, .bool false, .bool false, .bool false], .struct [(0, 1, false), (1, 1, false), (2, 1, false), (3, 1, false), (4, 1, false), (5, 1, false)], (some [.bool, .bool, .bool, .bool, .bool, .bool]), []⟩
theorem tiOk227 : teOf Tryz.prog 227 = some ti227 := by kernel_rfl
def ti228 : TI := ⟨6, true, [.bool false, .bool false, .bool false, .bool false, .bool false, .bool false], .struct [(0, 1, false), (1, 1, false), (2, 1, false), (3, 1, false), (4, 1, false), (5, 1, false)], (some [.bool, .bool, .bool, .bool, .bool, .bool]), []⟩
theorem tiOk228 : teOf Tryz.prog 228 = some ti228 := by kernel_rfl
def ti230 : TI := ⟨1, false, [.nilf], .func, none, []⟩
theorem tiOk230 : teOf Tryz.prog 230 = some ti230 := by kernel_rfl
def ti231 : TI := ⟨1, false, [.nilf], .func, none, []⟩
theorem tiOk231 : teOf Tryz.prog 231 = some ti231 := by kernel_rfl
def ti232 : TI := ⟨1, false, [.nilf], .func, none, []⟩
theorem tiOk232 : teOf Tryz.prog 232 = some ti232 := by kernel_rfl
def ti233 : TI := ⟨1, false, [.nilf], .func, none, []⟩
theorem tiOk233 : teOf Tryz.prog 233 = some ti233 := by kernel_rfl
def ti234 : TI := ⟨8, true, [.int .u8 (0), .int .u8 (0), .int .u8 (0), .int .u8 (0), .int .u8 (0), .int .u8 (0), .int .u8 (0), .int .u8 (0)], .array 8 1 false, none, []⟩
theorem tiOk234 : teOf Tryz.prog 234 = some ti234 := by kernel_rfl
def ti235 : TI := ⟨1, false, [.int .u64 (0)], .int .u64, none, []⟩
theorem tiOk235 : teOf Tryz.prog 235 = some ti235 := by kernel_rfl
def ti236 : TI := ⟨1, false, [.nilf], .func, none, []⟩
theorem tiOk236 : teOf Tryz.prog 236 = some ti236 := by kernel_rfl
def ti237 : TI := ⟨4, true, [.str [], .str [], .bool false, .bool false], .struct [(0, 1, false), (1, 1, false), (2, 1, false), (3, 1, false)], (some [.str, .str, .bool, .bool]), []⟩
theorem tiOk237 : teOf Tryz.prog 237 = some ti237 := by kernel_rfl
def ti238 : TI := ⟨4, true, [.str [], .str [], .bool false, .bool false], .struct [(0, 1, false), (1, 1, false), (2, 1, false), (3, 1, false)], (some [.str, .str, .bool, .bool]), [("spinnaker/stmt.has", some 153)]⟩
theorem tiOk238 : teOf Tryz.prog 238 = some ti238 := by kernel_rfl
def ti240 : TI := ⟨1, false, [.nilf], .func, none, []⟩
theorem tiOk240 : teOf Tryz.prog 240 = some ti240 := by kernel_rfl
def ti241 : TI := ⟨1, false, [.nilf], .func, none, []⟩
theorem tiOk241 : teOf Tryz.prog 241 = some ti241 := by kernel_rfl
def ti242 : TI := ⟨1, false, [.nilf], .func, none, []⟩
theorem tiOk242 : teOf Tryz.prog 242 = some ti242 := by kernel_rfl
def ti243 : TI := ⟨1, false, [.nilf], .func, none, []⟩
theorem tiOk243 : teOf Tryz.prog 243 = some ti243 := by kernel_rfl
def ti244 : TI := ⟨3, true, [.int .i64 (0), .int .i64 (0), .int .i64 (0)], .struct [(0, 1, false), (1, 1, false), (2, 1, false)], (some [.int, .int, .int]), []⟩
theorem tiOk244 : teOf Tryz.prog 244 = some ti244 := by kernel_rfl
def ti245 : TI := ⟨3, true, [.int .i64 (0), .int .i64 (0), .int .i64 (0)], .struct [(0, 1, false), (1, 1, false), (2, 1, false)], (some [.int, .int, .int]), []⟩
theorem tiOk245 : teOf Tryz.prog 245 = some ti245 := by kernel_rfl
def ti246 : TI := ⟨1, false, [.nilf], .func, none, []⟩
theorem tiOk246 : teOf Tryz.prog 246 = some ti246 := by kernel_rfl
def ti247 : TI := ⟨1, false, [.nilm], .map 3 228, none, []⟩
theorem tiOk247 : teOf Tryz.prog 247 = some ti247 := by kernel_rfl
def ti249 : TI := ⟨1, false, [.nilf], .func, none, []⟩
theorem tiOk249 : teOf Tryz.prog 249 = some ti249 := by kernel_rfl
def ti250 : TI := ⟨1, false, [.nilf], .func, none, []⟩
theorem tiOk250 : teOf Tryz.prog 250 = some ti250 := by kernel_rfl
def ti251 : TI := ⟨1, false, [.nilf], .func, none, []⟩
theorem tiOk251 : teOf Tryz.prog 251 = some ti251 := by kernel_rfl
def ti252 : TI := ⟨1, false, [.nils], .slice 238, none, []⟩
theorem tiOk252 : teOf Tryz.prog 252 = some ti252 := by kernel_rfl
def ti253 : TI := ⟨1, false, [.nilf], .func, none, []⟩
theorem tiOk253 : teOf Tryz.prog 253 = some ti253 := by kernel_rfl
def ti254 : TI := ⟨1, false, [.nilp], .ptr, none, [("spinnaker/code.node", some 166)]⟩
theorem tiOk254 : teOf Tryz.prog 254 = some ti254 := by kernel_rfl
def ti255 : TI := ⟨4, true, [.nils, .nilf, .nils, .bool false], .struct [(0, 1, false), (1, 1, false), (2, 1, false), (3, 1, false)], none, []⟩
theorem tiOk255 : teOf Tryz.prog 255 = some ti255 := by kernel_rfl
def ti256 : TI := ⟨4, true, [.nils, .nilf, .nils, .bool false], .struct [(0, 1, false), (1, 1, false), (2, 1, false), (3, 1, false)], none, []⟩
theorem tiOk256 : teOf Tryz.prog 256 = some ti256 := by kernel_rfl
def ti257 : TI := ⟨1, false, [.nilf], .func, none, []⟩
theorem tiOk257 : teOf Tryz.prog 257 = some ti257 := by kernel_rfl
def ti258 : TI := ⟨2, true, [.int .i64 (0), .nilf], .struct [(0, 1, false), (1, 1, false)], none, []⟩
theorem tiOk258 : teOf Tryz.prog 258 = some ti258 := by kernel_rfl
def ti259 : TI := ⟨2, true, [.int .i64 (0), .nilf], .struct [(0, 1, false), (1, 1, false)], none, []⟩
theorem tiOk259 : teOf Tryz.prog 259 = some ti259 := by kernel_rfl
def ti261 : TI := ⟨1, false, [.nilf], .func, none, []⟩
theorem tiOk261 : teOf Tryz.prog 261 = some ti261 := by kernel_rfl
def ti263 : TI := ⟨1, false, [.nilf], .func, none, []⟩
theorem tiOk263 : teOf Tryz.prog 263 = some ti263 := by kernel_rfl
def ti264 : TI := ⟨30, true, [.int .i64 (0), .nilf, .int .i64 (0), .nilf, .int .i64 (0), .nilf, .int .i64 (0), .nilf, .int .i64 (0), .nilf, .int .i64 (0), .nilf, .int .i64 (0), .nilf, .int .i64 (0), .nilf, .int .i64 (0), .nilf, .int .i64 (0), .nilf, .int .i64 (0), .nilf, .int .i64 (0), .nilf, .int .i64 (0), .nilf, .int .i64 (0), .nilf, .int .i64 (0), .nilf], .array 15 2 true, none, []⟩
theorem tiOk264 : teOf Tryz.prog 264 = some ti264 := by kernel_rfl
def ti265 : TI := ⟨4, true, [.nilp, .nilp, .nilp, .str []], .struct [(0, 1, false), (1, 1, false), (2, 1, false), (3, 1, false)], none, []⟩
theorem tiOk265 : teOf Tryz.prog 265 = some ti265 := by kernel_rfl
def ti266 : TI := ⟨4, true, [.nilp, .nilp, .nilp, .str []], .struct [(0, 1, false), (1, 1, false), (2, 1, false), (3, 1, false)], none, []⟩
theorem tiOk266 : teOf Tryz.prog 266 = some ti266 := by kernel_rfl
def ti267 : TI := ⟨0, true, [], .array 0 1 false, none, []⟩
theorem tiOk267 : teOf Tryz.prog 267 = some ti267 := by kernel_rfl
def ti268 : TI := ⟨0, true, [], .struct [(0, 0, true)], none, []⟩
theorem tiOk268 : teOf Tryz.prog 268 = some ti268 := by kernel_rfl
def ti269 : TI := ⟨0, true, [], .struct [(0, 0, true)], none, []⟩
theorem tiOk269 : teOf Tryz.prog 269 = some ti269 := by kernel_rfl
def ti270 : TI := ⟨1, false, [.int .u32 (0)], .int .u32, none, []⟩
theorem tiOk270 : teOf Tryz.prog 270 = some ti270 := by kernel_rfl
def ti271 : TI := ⟨1, false, [.int .u8 (0)], .int .u8, none, []⟩
theorem tiOk271 : teOf Tryz.prog 271 = some ti271 := by kernel_rfl
def ti272 : TI := ⟨1, false, [.int .u8 (0)], .int .u8, none, [("String", some 232)]⟩
theorem tiOk272 : teOf Tryz.prog 272 = some ti272 := by kernel_rfl
def ti273 : TI := ⟨1, false, [.nilf], .func, none, []⟩
theorem tiOk273 : teOf Tryz.prog 273 = some ti273 := by kernel_rfl
def ti274 : TI := ⟨1, false, [.nilp], .ptr, none, []⟩
theorem tiOk274 : teOf Tryz.prog 274 = some ti274 := by kernel_rfl
def ti275 : TI := ⟨1, false, [.int .i32 (0)], .int .i32, none, []⟩
theorem tiOk275 : teOf Tryz.prog 275 = some ti275 := by kernel_rfl
def ti276 : TI := ⟨1, false, [.int .i32 (0)], .int .i32, none, []⟩
theorem tiOk276 : teOf Tryz.prog 276 = some ti276 := by kernel_rfl
def ti277 : TI := ⟨11, true, [.int .u64 (0), .int .u64 (0), .int .u32 (0), .int .u8 (0), .int .u8 (0), .int .u8 (0), .int .u8 (0), .nilf, .nilp, .int .i32 (0), .int .i32 (0)], .struct [(0, 1, false), (1, 1, false), (2, 1, false), (3, 1, false), (4, 1, false), (5, 1, false), (6, 1, false), (7, 1, false), (8, 1, false), (9, 1, false), (10, 1, false)], none, []⟩
theorem tiOk277 : teOf Tryz.prog 277 = some ti277 := by kernel_rfl
def ti278 : TI := ⟨11, true, [.int .u64 (0), .int .u64 (0), .int .u32 (0), .int .u8 (0), .int .u8 (0), .int .u8 (0), .int .u8 (0), .nilf, .nilp, .int .i32 (0), .int .i32 (0)], .struct [(0, 1, false), (1, 1, false), (2, 1, false), (3, 1, false), (4, 1, false), (5, 1, false), (6, 1, false), (7, 1, false), (8, 1, false), (9, 1, false), (10, 1, false)], none, []⟩
theorem tiOk278 : teOf Tryz.prog 278 = some ti278 := by kernel_rfl
def ti279 : TI := ⟨1, false, [.nilf], .func, none, []⟩
theorem tiOk279 : teOf Tryz.prog 279 = some ti279 := by kernel_rfl
def ti280 : TI := ⟨1, false, [.nilp], .ptr, none, [("spinnaker/step.add", some 208), ("spinnaker/step.branch", some 206), ("spinnaker/step.compute", some 202), ("spinnaker/step.enabled", some 201), ("spinnaker/step.exchange", some 209), ("spinnaker/step.goes", some 210), ("spinnaker/step.jump", some 205), ("spinnaker/step.load", some 203), ("spinnaker/step.mem", some 217), ("spinnaker/step.set", some 214), ("spinnaker/step.store", some 215), ("spinnaker/step.swap", some 207), ("spinnaker/step.value", some 213), ("spinnaker/step.write", some 204)]⟩
theorem tiOk280 : teOf Tryz.prog 280 = some ti280 := by kernel_rfl
def ti282 : TI := ⟨1, false, [.nilf], .func, none, []⟩
theorem tiOk282 : teOf Tryz.prog 282 = some ti282 := by kernel_rfl
def ti283 : TI := ⟨18, true, [.int .i64 (0), .nils, .nils, .nils, .nils, .nils, .nils, .nils, .int .i64 (0), .int .i64 (0), .int .i64 (0), .int .i64 (0), .int .i64 (0), .int .i64 (0), .nils, .nils, .bool false, .int .i64 (0)], .struct [(0, 4, true), (4, 4, true), (8, 1, false), (9, 1, false), (10, 1, false), (11, 7, true)], none, []⟩
theorem tiOk283 : teOf Tryz.prog 283 = some ti283 := by kernel_rfl
def ti284 : TI := ⟨18, true, [.int .i64 (0), .nils, .nils, .nils, .nils, .nils, .nils, .nils, .int .i64 (0), .int .i64 (0), .int .i64 (0), .int .i64 (0), .int .i64 (0), .int .i64 (0), .nils, .nils, .bool false, .int .i64 (0)], .struct [(0, 4, true), (4, 4, true), (8, 1, false), (9, 1, false), (10, 1, false), (11, 7, true)], none, []⟩
theorem tiOk284 : teOf Tryz.prog 284 = some ti284 := by kernel_rfl
def ti285 : TI := ⟨1, false, [.nilf], .func, none, []⟩
theorem tiOk285 : teOf Tryz.prog 285 = some ti285 := by kernel_rfl
def ti286 : TI := ⟨1, false, [.nilm], .map 3 285, none, []⟩
theorem tiOk286 : teOf Tryz.prog 286 = some ti286 := by kernel_rfl
def ti287 : TI := ⟨1, false, [.nilf], .func, none, []⟩
theorem tiOk287 : teOf Tryz.prog 287 = some ti287 := by kernel_rfl
def ti289 : TI := ⟨1, false, [.nilf], .func, none, []⟩
theorem tiOk289 : teOf Tryz.prog 289 = some ti289 := by kernel_rfl
def ti290 : TI := ⟨1, false, [.nilf], .func, none, []⟩
theorem tiOk290 : teOf Tryz.prog 290 = some ti290 := by kernel_rfl
def ti291 : TI := ⟨1, false, [.nilf], .func, none, []⟩
theorem tiOk291 : teOf Tryz.prog 291 = some ti291 := by kernel_rfl
def ti292 : TI := ⟨1, false, [.nilf], .func, none, []⟩
theorem tiOk292 : teOf Tryz.prog 292 = some ti292 := by kernel_rfl
def ti293 : TI := ⟨1, false, [.nilf], .func, none, []⟩
theorem tiOk293 : teOf Tryz.prog 293 = some ti293 := by kernel_rfl
def ti294 : TI := ⟨1, false, [.nilf], .func, none, []⟩
theorem tiOk294 : teOf Tryz.prog 294 = some ti294 := by kernel_rfl
def ti295 : TI := ⟨1, false, [.nilf], .func, none, []⟩
theorem tiOk295 : teOf Tryz.prog 295 = some ti295 := by kernel_rfl
def ti296 : TI := ⟨1, false, [.nilf], .func, none, []⟩
theorem tiOk296 : teOf Tryz.prog 296 = some ti296 := by kernel_rfl
def ti297 : TI := ⟨1, false, [.nilf], .func, none, []⟩
theorem tiOk297 : teOf Tryz.prog 297 = some ti297 := by kernel_rfl
def ti299 : TI := ⟨1, false, [.nilf], .func, none, []⟩
theorem tiOk299 : teOf Tryz.prog 299 = some ti299 := by kernel_rfl
def ti300 : TI := ⟨1, false, [.nilf], .func, none, []⟩
theorem tiOk300 : teOf Tryz.prog 300 = some ti300 := by kernel_rfl
def ti301 : TI := ⟨1, false, [.nilf], .func, none, []⟩
theorem tiOk301 : teOf Tryz.prog 301 = some ti301 := by kernel_rfl
def ti302 : TI := ⟨1, false, [.nilp], .other, none, []⟩
theorem tiOk302 : teOf Tryz.prog 302 = some ti302 := by kernel_rfl
def tiTree : Tr TI := (.node (.node (.node (.node (.node (.node (.node (.node (.node .nil 1 ti1 .nil) 2 ti2 .nil) 3 ti3 (.node .nil 4 ti4 .nil)) 5 ti5 (.node (.node .nil 6 ti6 .nil) 7 ti7 (.node .nil 8 ti8 .nil))) 9 ti9 (.node (.node (.node (.node .nil 10 ti10 .nil) 11 ti11 .nil) 12 ti12 (.node .nil 13 ti13 .nil)) 14 ti14 (.node (.node .nil 15 ti15 .nil) 16 ti16 (.node .nil 17 ti17 .nil)))) 18 ti18 (.node (.node (.node (.node (.node .nil 19 ti19 .nil) 20 ti20 .nil) 21 ti21 (.node .nil 22 ti22 .nil)) 23 ti23 (.node (.node .nil 24 ti24 .nil) 25 ti25 (.node .nil 26 ti26 .nil))) 27 ti27 (.node (.node (.node .nil 28 ti28 .nil) 29 ti29 (.node .nil 30 ti30 .nil)) 31 ti31 (.node (.node .nil 32 ti32 .nil) 33 ti33 (.node .nil 34 ti34 .nil))))) 35 ti35 (.node (.node (.node (.node (.node (.node .nil 37 ti37 .nil) 39 ti39 .nil) 40 ti40 (.node .nil 41 ti41 .nil)) 43 ti43 (.node (.node .nil 44 ti44 .nil) 45 ti45 (.node .nil 46 ti46 .nil))) 47 ti47 (.node (.node (.node .nil 49 ti49 .nil) 50 ti50 (.node .nil 51 ti51 .nil)) 52 ti52 (.node (.node .nil 53 ti53 .nil) 54 ti54 (.node .nil 56 ti56 .nil)))) 57 ti57 (.node (.node (.node (.node (.node .nil 58 ti58 .nil) 60 ti60 .nil) 61 ti61 (.node .nil 62 ti62 .nil)) 63 ti63 (.node (.node .nil 64 ti64 .nil) 65 ti65 (.node .nil 66 ti66 .nil))) 67 ti67 (.node (.node (.node .nil 68 ti68 .nil) 69 ti69 (.node .nil 70 ti70 .nil)) 71 ti71 (.node (.node .nil 72 ti72 .nil) 73 ti73 (.node .nil 74 ti74 .nil)))))) 75 ti75 (.node (.node (.node (.node (.node (.node (.node .nil 76 ti76 .nil) 77 ti77 .nil) 78 ti78 (.node .nil 79 ti79 .nil)) 81 ti81 (.node (.node .nil 82 ti82 .nil) 83 ti83 (.node .nil 84 ti84 .nil))) 85 ti85 (.node (.node (.node (.node .nil 86 ti86 .nil) 87 ti87 .nil) 88 ti88 (.node .nil 90 ti90 .nil)) 92 ti92 (.node (.node .nil 93 ti93 .nil) 94 ti94 (.node .nil 95 ti95 .nil)))) 96 ti96 (.node (.node (.node (.node (.node .nil 97 ti97 .nil) 98 ti98 .nil) 99 ti99 (.node .nil 100 ti100 .nil)) 101 ti101 (.node (.node .nil 103 ti103 .nil) 104 ti104 (.node .nil 105 ti105 .nil))) 107 ti107 (.node (.node (.node .nil 108 ti108 .nil) 109 ti109 (.node .nil 110 ti110 .nil)) 111 ti111 (.node (.node .nil 112 ti112 .nil) 114 ti114 (.node .nil 115 ti115 .nil))))) 116 ti116 (.node (.node (.node (.node (.node (.node .nil 117 ti117 .nil) 119 ti119 .nil) 120 ti120 (.node .nil 121 ti121 .nil)) 123 ti123 (.node (.node .nil 124 ti124 .nil) 125 ti125 (.node .nil 126 ti126 .nil))) 127 ti127 (.node (.node (.node .nil 128 ti128 .nil) 129 ti129 (.node .nil 130 ti130 .nil)) 131 ti131 (.node (.node .nil 132 ti132 .nil) 133 ti133 (.node .nil 134 ti134 .nil)))) 135 ti135 (.node (.node (.node (.node (.node .nil 136 ti136 .nil) 137 ti137 .nil) 138 ti138 (.node .nil 139 ti139 .nil)) 140 ti140 (.node (.node .nil 141 ti141 .nil) 142 ti142 (.node .nil 143 ti143 .nil))) 144 ti144 (.node (.node (.node .nil 145 ti145 .nil) 146 ti146 (.node .nil 147 ti147 .nil)) 148 ti148 (.node (.node .nil 149 ti149 .nil) 150 ti150 (.node .nil 151 ti151 .nil))))))) 152 ti152 (.node (.node (.node (.node (.node (.node (.node (.node .nil 153 ti153 .nil) 154 ti154 .nil) 155 ti155 (.node .nil 156 ti156 .nil)) 158 ti158 (.node (.node .nil 159 ti159 .nil) 160 ti160 (.node .nil 161 ti161 .nil))) 162 ti162 (.node (.node (.node (.node .nil 163 ti163 .nil) 164 ti164 .nil) 165 ti165 (.node .nil 167 ti167 .nil)) 168 ti168 (.node (.node .nil 169 ti169 .nil) 170 ti170 (.node .nil 171 ti171 .nil)))) 172 ti172 (.node (.node (.node (.node (.node .nil 173 ti173 .nil) 174 ti174 .nil) 175 ti175 (.node .nil 176 ti176 .nil)) 177 ti177 (.node (.node .nil 178 ti178 .nil) 179 ti179 (.node .nil 180 ti180 .nil))) 181 ti181 (.node (.node (.node .nil 182 ti182 .nil) 183 ti183 (.node .nil 184 ti184 .nil)) 185 ti185 (.node (.node .nil 187 ti187 .nil) 188 ti188 (.node .nil 189 ti189 .nil))))) 190 ti190 (.node (.node (.node (.node (.node (.node .nil 191 ti191 .nil) 192 ti192 .nil) 193 ti193 (.node .nil 194 ti194 .nil)) 195 ti195 (.node (.node .nil 196 ti196 .nil) 197 ti197 (.node .nil 198 ti198 .nil))) 199 ti199 (.node (.node (.node .nil 200 ti200 .nil) 202 ti202 (.node .nil 203 ti203 .nil)) 204 ti204 (.node (.node .nil 205 ti205 .nil) 206 ti206 (.node .nil 207 ti207 .nil)))) 208 ti208 (.node (.node (.node (.node (.node .nil 209 ti209 .nil) 210 ti210 .nil) 211 ti211 (.node .nil 212 ti212 .nil)) 213 ti213 (.node (.node .nil 214 ti214 .nil) 215 ti215 (.node .nil 216 ti216 .nil))) 217 ti217 (.node (.node (.node .nil 218 ti218 .nil) 219 ti219 (.node .nil 220 ti220 .nil)) 221 ti221 (.node (.node .nil 222 ti222 .nil) 224 ti224 (.node .nil 225 ti225 .nil)))))) 226 ti226 (.node (.node (.node (.node (.node (.node (.node .nil 227 ti227 .nil) 228 ti228 .nil) 230 ti230 (.node .nil 231 ti231 .nil)) 232 ti232 (.node (.node .nil 233 ti233 .nil) 234 ti234 (.node .nil 235 ti235 .nil))) 236 ti236 (.node (.node (.node (.node .nil 237 ti237 .nil) 238 ti238 .nil) 240 ti240 (.node .nil 241 ti241 .nil)) 242 ti242 (.node (.node .nil 243 ti243 .nil) 244 ti244 (.node .nil 245 ti245 .nil)))) 246 ti246 (.node (.node (.node (.node (.node .nil 247 ti247 .nil) 249 ti249 .nil) 250 ti250 (.node .nil 251 ti251 .nil)) 252 ti252 (.node (.node .nil 253 ti253 .nil) 254 ti254 (.node .nil 255 ti255 .nil))) 256 ti256 (.node (.node (.node .nil 257 ti257 .nil) 258 ti258 (.node .nil 259 ti259 .nil)) 261 ti261 (.node (.node .nil 263 ti263 .nil) 264 ti264 (.node .nil 265 ti265 .nil))))) 266 ti266 (.node (.node (.node (.node (.node (.node .nil 267 ti267 .nil) 268 ti268 .nil) 269 ti269 (.node .nil 270 ti270 .nil)) 271 ti271 (.node (.node .nil 272 ti272 .nil) 273 ti273 (.node .nil 274 ti274 .nil))) 275 ti275 (.node (.node (.node .nil 276 ti276 .nil) 277 ti277 (.node .nil 278 ti278 .nil)) 279 ti279 (.node (.node .nil 280 ti280 .nil) 282 ti282 (.node .nil 283 ti283 .nil)))) 284 ti284 (.node (.node (.node (.node (.node .nil 285 ti285 .nil) 286 ti286 .nil) 287 ti287 (.node .nil 289 ti289 .nil)) 290 ti290 (.node (.node .nil 291 ti291 .nil) 292 ti292 (.node .nil 293 ti293 .nil))) 294 ti294 (.node (.node (.node .nil 295 ti295 .nil) 296 ti296 (.node .nil 297 ti297 .nil)) 299 ti299 (.node (.node .nil 300 ti300 .nil) 301 ti301 (.node .nil 302 ti302 .nil))))))))
abbrev TT : TE := tiTree.get
theorem tOk : TEok Tryz.prog TT := teOk (t := tiTree) ⟨⟨⟨⟨⟨⟨⟨⟨⟨trivial, tiOk1, trivial⟩, tiOk2, trivial⟩, tiOk3, ⟨trivial, tiOk4, trivial⟩⟩, tiOk5, ⟨⟨trivial, tiOk6, trivial⟩, tiOk7, ⟨trivial, tiOk8, trivial⟩⟩⟩, tiOk9, ⟨⟨⟨⟨trivial, tiOk10, trivial⟩, tiOk11, trivial⟩, tiOk12, ⟨trivial, tiOk13, trivial⟩⟩, tiOk14, ⟨⟨trivial, tiOk15, trivial⟩, tiOk16, ⟨trivial, tiOk17, trivial⟩⟩⟩⟩, tiOk18, ⟨⟨⟨⟨⟨trivial, tiOk19, trivial⟩, tiOk20, trivial⟩, tiOk21, ⟨trivial, tiOk22, trivial⟩⟩, tiOk23, ⟨⟨trivial, tiOk24, trivial⟩, tiOk25, ⟨trivial, tiOk26, trivial⟩⟩⟩, tiOk27, ⟨⟨⟨trivial, tiOk28, trivial⟩, tiOk29, ⟨trivial, tiOk30, trivial⟩⟩, tiOk31, ⟨⟨trivial, tiOk32, trivial⟩, tiOk33, ⟨trivial, tiOk34, trivial⟩⟩⟩⟩⟩, tiOk35, ⟨⟨⟨⟨⟨⟨trivial, tiOk37, trivial⟩, tiOk39, trivial⟩, tiOk40, ⟨trivial, tiOk41, trivial⟩⟩, tiOk43, ⟨⟨trivial, tiOk44, trivial⟩, tiOk45, ⟨trivial, tiOk46, trivial⟩⟩⟩, tiOk47, ⟨⟨⟨trivial, tiOk49, trivial⟩, tiOk50, ⟨trivial, tiOk51, trivial⟩⟩, tiOk52, ⟨⟨trivial, tiOk53, trivial⟩, tiOk54, ⟨trivial, tiOk56, trivial⟩⟩⟩⟩, tiOk57, ⟨⟨⟨⟨⟨trivial, tiOk58, trivial⟩, tiOk60, trivial⟩, tiOk61, ⟨trivial, tiOk62, trivial⟩⟩, tiOk63, ⟨⟨trivial, tiOk64, trivial⟩, tiOk65, ⟨trivial, tiOk66, trivial⟩⟩⟩, tiOk67, ⟨⟨⟨trivial, tiOk68, trivial⟩, tiOk69, ⟨trivial, tiOk70, trivial⟩⟩, tiOk71, ⟨⟨trivial, tiOk72, trivial⟩, tiOk73, ⟨trivial, tiOk74, trivial⟩⟩⟩⟩⟩⟩, tiOk75, ⟨⟨⟨⟨⟨⟨⟨trivial, tiOk76, trivial⟩, tiOk77, trivial⟩, tiOk78, ⟨trivial, tiOk79, trivial⟩⟩, tiOk81, ⟨⟨trivial, tiOk82, trivial⟩, tiOk83, ⟨trivial, tiOk84, trivial⟩⟩⟩, tiOk85, ⟨⟨⟨⟨trivial, tiOk86, trivial⟩, tiOk87, trivial⟩, tiOk88, ⟨trivial, tiOk90, trivial⟩⟩, tiOk92, ⟨⟨trivial, tiOk93, trivial⟩, tiOk94, ⟨trivial, tiOk95, trivial⟩⟩⟩⟩, tiOk96, ⟨⟨⟨⟨⟨trivial, tiOk97, trivial⟩, tiOk98, trivial⟩, tiOk99, ⟨trivial, tiOk100, trivial⟩⟩, tiOk101, ⟨⟨trivial, tiOk103, trivial⟩, tiOk104, ⟨trivial, tiOk105, trivial⟩⟩⟩, tiOk107, ⟨⟨⟨trivial, tiOk108, trivial⟩, tiOk109, ⟨trivial, tiOk110, trivial⟩⟩, tiOk111, ⟨⟨trivial, tiOk112, trivial⟩, tiOk114, ⟨trivial, tiOk115, trivial⟩⟩⟩⟩⟩, tiOk116, ⟨⟨⟨⟨⟨⟨trivial, tiOk117, trivial⟩, tiOk119, trivial⟩, tiOk120, ⟨trivial, tiOk121, trivial⟩⟩, tiOk123, ⟨⟨trivial, tiOk124, trivial⟩, tiOk125, ⟨trivial, tiOk126, trivial⟩⟩⟩, tiOk127, ⟨⟨⟨trivial, tiOk128, trivial⟩, tiOk129, ⟨trivial, tiOk130, trivial⟩⟩, tiOk131, ⟨⟨trivial, tiOk132, trivial⟩, tiOk133, ⟨trivial, tiOk134, trivial⟩⟩⟩⟩, tiOk135, ⟨⟨⟨⟨⟨trivial, tiOk136, trivial⟩, tiOk137, trivial⟩, tiOk138, ⟨trivial, tiOk139, trivial⟩⟩, tiOk140, ⟨⟨trivial, tiOk141, trivial⟩, tiOk142, ⟨trivial, tiOk143, trivial⟩⟩⟩, tiOk144, ⟨⟨⟨trivial, tiOk145, trivial⟩, tiOk146, ⟨trivial, tiOk147, trivial⟩⟩, tiOk148, ⟨⟨trivial, tiOk149, trivial⟩, tiOk150, ⟨trivial, tiOk151, trivial⟩⟩⟩⟩⟩⟩⟩, tiOk152, ⟨⟨⟨⟨⟨⟨⟨⟨trivial, tiOk153, trivial⟩, tiOk154, trivial⟩, tiOk155, ⟨trivial, tiOk156, trivial⟩⟩, tiOk158, ⟨⟨trivial, tiOk159, trivial⟩, tiOk160, ⟨trivial, tiOk161, trivial⟩⟩⟩, tiOk162, ⟨⟨⟨⟨trivial, tiOk163, trivial⟩, tiOk164, trivial⟩, tiOk165, ⟨trivial, tiOk167, trivial⟩⟩, tiOk168, ⟨⟨trivial, tiOk169, trivial⟩, tiOk170, ⟨trivial, tiOk171, trivial⟩⟩⟩⟩, tiOk172, ⟨⟨⟨⟨⟨trivial, tiOk173, trivial⟩, tiOk174, trivial⟩, tiOk175, ⟨trivial, tiOk176, trivial⟩⟩, tiOk177, ⟨⟨trivial, tiOk178, trivial⟩, tiOk179, ⟨trivial, tiOk180, trivial⟩⟩⟩, tiOk181, ⟨⟨⟨trivial, tiOk182, trivial⟩, tiOk183, ⟨trivial, tiOk184, trivial⟩⟩, tiOk185, ⟨⟨trivial, tiOk187, trivial⟩, tiOk188, ⟨trivial, tiOk189, trivial⟩⟩⟩⟩⟩, tiOk190, ⟨⟨⟨⟨⟨⟨trivial, tiOk191, trivial⟩, tiOk192, trivial⟩, tiOk193, ⟨trivial, tiOk194, trivial⟩⟩, tiOk195, ⟨⟨trivial, tiOk196, trivial⟩, tiOk197, ⟨trivial, tiOk198, trivial⟩⟩⟩, tiOk199, ⟨⟨⟨trivial, tiOk200, trivial⟩, tiOk202, ⟨trivial, tiOk203, trivial⟩⟩, tiOk204, ⟨⟨trivial, tiOk205, trivial⟩, tiOk206, ⟨trivial, tiOk207, trivial⟩⟩⟩⟩, tiOk208, ⟨⟨⟨⟨⟨trivial, tiOk209, trivial⟩, tiOk210, trivial⟩, tiOk211, ⟨trivial, tiOk212, trivial⟩⟩, tiOk213, ⟨⟨trivial, tiOk214, trivial⟩, tiOk215, ⟨trivial, tiOk216, trivial⟩⟩⟩, tiOk217, ⟨⟨⟨trivial, tiOk218, trivial⟩, tiOk219, ⟨trivial, tiOk220, trivial⟩⟩, tiOk221, ⟨⟨trivial, tiOk222, trivial⟩, tiOk224, ⟨trivial, tiOk225, trivial⟩⟩⟩⟩⟩⟩, tiOk226, ⟨⟨⟨⟨⟨⟨⟨trivial, tiOk227, trivial⟩, tiOk228, trivial⟩, tiOk230, ⟨trivial, tiOk231, trivial⟩⟩, tiOk232, ⟨⟨trivial, tiOk233, trivial⟩, tiOk234, ⟨trivial, tiOk235, trivial⟩⟩⟩, tiOk236, ⟨⟨⟨⟨trivial, tiOk237, trivial⟩, tiOk238, trivial⟩, tiOk240, ⟨trivial, tiOk241, trivial⟩⟩, tiOk242, ⟨⟨trivial, tiOk243, trivial⟩, tiOk244, ⟨trivial, tiOk245, trivial⟩⟩⟩⟩, tiOk246, ⟨⟨⟨⟨⟨trivial, tiOk247, trivial⟩, tiOk249, trivial⟩, tiOk250, ⟨trivial, tiOk251, trivial⟩⟩, tiOk252, ⟨⟨trivial, tiOk253, trivial⟩, tiOk254, ⟨trivial, tiOk255, trivial⟩⟩⟩, tiOk256, ⟨⟨⟨trivial, tiOk257, trivial⟩, tiOk258, ⟨trivial, tiOk259, trivial⟩⟩, tiOk261, ⟨⟨trivial, tiOk263, trivial⟩, tiOk264, ⟨trivial, tiOk265, trivial⟩⟩⟩⟩⟩, tiOk266, ⟨⟨⟨⟨⟨⟨trivial, tiOk267, trivial⟩, tiOk268, trivial⟩, tiOk269, ⟨trivial, tiOk270, trivial⟩⟩, tiOk271, ⟨⟨trivial, tiOk272, trivial⟩, tiOk273, ⟨trivial, tiOk274, trivial⟩⟩⟩, tiOk275, ⟨⟨⟨trivial, tiOk276, trivial⟩, tiOk277, ⟨trivial, tiOk278, trivial⟩⟩, tiOk279, ⟨⟨trivial, tiOk280, trivial⟩, tiOk282, ⟨trivial, tiOk283, trivial⟩⟩⟩⟩, tiOk284, ⟨⟨⟨⟨⟨trivial, tiOk285, trivial⟩, tiOk286, trivial⟩, tiOk287, ⟨trivial, tiOk289, trivial⟩⟩, tiOk290, ⟨⟨trivial, tiOk291, trivial⟩, tiOk292, ⟨trivial, tiOk293, trivial⟩⟩⟩, tiOk294, ⟨⟨⟨trivial, tiOk295, trivial⟩, tiOk296, ⟨trivial, tiOk297, trivial⟩⟩, tiOk299, ⟨⟨trivial, tiOk300, trivial⟩, tiOk301, ⟨trivial, tiOk302, trivial⟩⟩⟩⟩⟩⟩⟩⟩
end Go.Proofs.YtgkalmmlgkaabaaGreat.Am
