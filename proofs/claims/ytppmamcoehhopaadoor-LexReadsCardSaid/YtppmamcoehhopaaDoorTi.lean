/- What the types of this claim's program are, as the abstract machine asks: each fact is the kernel's own reckoning. -/
import Derived.Test.YtppmamcoehhopaaDoorProg
import Derived.Test.YtppmamcoehhopaaDoorAxL
namespace Go.Proofs.YtppmamcoehhopaaDoor.Ti
open Go Go.Proofs.YtppmamcoehhopaaDoor.Ax
theorem ti1 : tiOf Go.Proofs.Tryd.prog 1 = some ⟨.fn, 1, 8, [.nilFunc]⟩ := by kernel_rfl
theorem ti2 : tiOf Go.Proofs.Tryd.prog 2 = some ⟨.int .i64, 1, 8, [.int .i64 0]⟩ := by kernel_rfl
theorem ti3 : tiOf Go.Proofs.Tryd.prog 3 = some ⟨.int .i64, 1, 8, [.int .i64 0]⟩ := by kernel_rfl
theorem ti4 : tiOf Go.Proofs.Tryd.prog 4 = some ⟨.bool, 1, 1, [.bool false]⟩ := by kernel_rfl
theorem ti5 : tiOf Go.Proofs.Tryd.prog 5 = some ⟨.int .u8, 1, 1, [.int .u8 0]⟩ := by kernel_rfl
theorem ti6 : tiOf Go.Proofs.Tryd.prog 6 = some ⟨.int .u8, 1, 1, [.int .u8 0]⟩ := by kernel_rfl
theorem ti7 : tiOf Go.Proofs.Tryd.prog 7 = some ⟨.st [(0, 2), (1, 3), (2, 4), (3, 6)], 4, 24, [.int .i64 0, .int .i64 0, .bool false, .int .u8 0]⟩ := by kernel_rfl
theorem ti8 : tiOf Go.Proofs.Tryd.prog 8 = some ⟨.st [(0, 2), (1, 3), (2, 4), (3, 6)], 4, 24, [.int .i64 0, .int .i64 0, .bool false, .int .u8 0]⟩ := by kernel_rfl
theorem ti9 : tiOf Go.Proofs.Tryd.prog 9 = some ⟨.str, 1, 16, [.string ⟨#[]⟩]⟩ := by kernel_rfl
theorem ti10 : tiOf Go.Proofs.Tryd.prog 10 = some ⟨.str, 1, 16, [.string ⟨#[]⟩]⟩ := by kernel_rfl
theorem ti11 : tiOf Go.Proofs.Tryd.prog 11 = some ⟨.str, 1, 16, [.string ⟨#[]⟩]⟩ := by kernel_rfl
theorem ti12 : tiOf Go.Proofs.Tryd.prog 12 = some ⟨.int .u64, 1, 8, [.int .u64 0]⟩ := by kernel_rfl
theorem ti13 : tiOf Go.Proofs.Tryd.prog 13 = some ⟨.st [(0, 9), (1, 12)], 2, 24, [.string ⟨#[]⟩, .int .u64 0]⟩ := by kernel_rfl
theorem ti14 : tiOf Go.Proofs.Tryd.prog 14 = some ⟨.st [(0, 9), (1, 12)], 2, 24, [.string ⟨#[]⟩, .int .u64 0]⟩ := by kernel_rfl
theorem ti15 : tiOf Go.Proofs.Tryd.prog 15 = some ⟨.pt 93, 1, 8, [.pointer none]⟩ := by kernel_rfl
theorem ti16 : tiOf Go.Proofs.Tryd.prog 16 = some ⟨.pt 96, 1, 8, [.pointer none]⟩ := by kernel_rfl
theorem ti17 : tiOf Go.Proofs.Tryd.prog 17 = some ⟨.pt 103, 1, 8, [.pointer none]⟩ := by kernel_rfl
theorem ti18 : tiOf Go.Proofs.Tryd.prog 18 = some ⟨.st [(0, 17)], 1, 8, [.pointer none]⟩ := by kernel_rfl
theorem ti19 : tiOf Go.Proofs.Tryd.prog 19 = some ⟨.st [(0, 17)], 1, 8, [.pointer none]⟩ := by kernel_rfl
theorem ti20 : tiOf Go.Proofs.Tryd.prog 20 = some ⟨.ifc, 1, 16, [.nilIface]⟩ := by kernel_rfl
theorem ti21 : tiOf Go.Proofs.Tryd.prog 21 = some ⟨.int .i32, 1, 4, [.int .i32 0]⟩ := by kernel_rfl
theorem ti22 : tiOf Go.Proofs.Tryd.prog 22 = some ⟨.fn, 1, 8, [.nilFunc]⟩ := by kernel_rfl
theorem ti23 : tiOf Go.Proofs.Tryd.prog 23 = some ⟨.sl 32, 1, 24, [.slice none 0 0]⟩ := by kernel_rfl
theorem ti24 : tiOf Go.Proofs.Tryd.prog 24 = some ⟨.int .i64, 1, 8, [.int .i64 0]⟩ := by kernel_rfl
theorem ti26 : tiOf Go.Proofs.Tryd.prog 26 = some ⟨.fn, 1, 8, [.nilFunc]⟩ := by kernel_rfl
theorem ti28 : tiOf Go.Proofs.Tryd.prog 28 = some ⟨.fn, 1, 8, [.nilFunc]⟩ := by kernel_rfl
theorem ti29 : tiOf Go.Proofs.Tryd.prog 29 = some ⟨.fn, 1, 8, [.nilFunc]⟩ := by kernel_rfl
theorem ti30 : tiOf Go.Proofs.Tryd.prog 30 = some ⟨.sl 9, 1, 24, [.slice none 0 0]⟩ := by kernel_rfl
theorem ti31 : tiOf Go.Proofs.Tryd.prog 31 = some ⟨.st [(0, 3), (1, 30)], 2, 32, [.int .i64 0, .slice none 0 0]⟩ := by kernel_rfl
theorem ti32 : tiOf Go.Proofs.Tryd.prog 32 = some ⟨.st [(0, 3), (1, 30)], 2, 32, [.int .i64 0, .slice none 0 0]⟩ := by kernel_rfl
theorem ti33 : tiOf Go.Proofs.Tryd.prog 33 = some ⟨.fn, 1, 8, [.nilFunc]⟩ := by kernel_rfl
theorem ti34 : tiOf Go.Proofs.Tryd.prog 34 = some ⟨.fn, 1, 8, [.nilFunc]⟩ := by kernel_rfl
theorem ti35 : tiOf Go.Proofs.Tryd.prog 35 = some ⟨.sl 5, 1, 24, [.slice none 0 0]⟩ := by kernel_rfl
theorem ti36 : tiOf Go.Proofs.Tryd.prog 36 = some ⟨.fn, 1, 8, [.nilFunc]⟩ := by kernel_rfl
theorem ti38 : tiOf Go.Proofs.Tryd.prog 38 = some ⟨.fn, 1, 8, [.nilFunc]⟩ := by kernel_rfl
theorem ti39 : tiOf Go.Proofs.Tryd.prog 39 = some ⟨.fn, 1, 8, [.nilFunc]⟩ := by kernel_rfl
theorem ti40 : tiOf Go.Proofs.Tryd.prog 40 = some ⟨.pt 32, 1, 8, [.pointer none]⟩ := by kernel_rfl
theorem ti41 : tiOf Go.Proofs.Tryd.prog 41 = some ⟨.fn, 1, 8, [.nilFunc]⟩ := by kernel_rfl
theorem ti42 : tiOf Go.Proofs.Tryd.prog 42 = some ⟨.fn, 1, 8, [.nilFunc]⟩ := by kernel_rfl
theorem ti43 : tiOf Go.Proofs.Tryd.prog 43 = some ⟨.fn, 1, 8, [.nilFunc]⟩ := by kernel_rfl
theorem ti44 : tiOf Go.Proofs.Tryd.prog 44 = some ⟨.fn, 1, 8, [.nilFunc]⟩ := by kernel_rfl
theorem ti45 : tiOf Go.Proofs.Tryd.prog 45 = some ⟨.fn, 1, 8, [.nilFunc]⟩ := by kernel_rfl
theorem ti46 : tiOf Go.Proofs.Tryd.prog 46 = some ⟨.sl 48, 1, 24, [.slice none 0 0]⟩ := by kernel_rfl
theorem ti47 : tiOf Go.Proofs.Tryd.prog 47 = some ⟨.st [(0, 3), (1, 3)], 2, 16, [.int .i64 0, .int .i64 0]⟩ := by kernel_rfl
theorem ti48 : tiOf Go.Proofs.Tryd.prog 48 = some ⟨.st [(0, 3), (1, 3)], 2, 16, [.int .i64 0, .int .i64 0]⟩ := by kernel_rfl
theorem ti49 : tiOf Go.Proofs.Tryd.prog 49 = some ⟨.pt 51, 1, 8, [.pointer none]⟩ := by kernel_rfl
theorem ti50 : tiOf Go.Proofs.Tryd.prog 50 = some ⟨.st [(0, 49), (1, 35)], 2, 32, [.pointer none, .slice none 0 0]⟩ := by kernel_rfl
theorem ti51 : tiOf Go.Proofs.Tryd.prog 51 = some ⟨.st [(0, 49), (1, 35)], 2, 32, [.pointer none, .slice none 0 0]⟩ := by kernel_rfl
theorem ti52 : tiOf Go.Proofs.Tryd.prog 52 = some ⟨.fn, 1, 8, [.nilFunc]⟩ := by kernel_rfl
theorem ti53 : tiOf Go.Proofs.Tryd.prog 53 = some ⟨.ifc, 1, 16, [.nilIface]⟩ := by kernel_rfl
theorem ti54 : tiOf Go.Proofs.Tryd.prog 54 = some ⟨.ifc, 1, 16, [.nilIface]⟩ := by kernel_rfl
theorem ti56 : tiOf Go.Proofs.Tryd.prog 56 = some ⟨.fn, 1, 8, [.nilFunc]⟩ := by kernel_rfl
theorem ti57 : tiOf Go.Proofs.Tryd.prog 57 = some ⟨.fn, 1, 8, [.nilFunc]⟩ := by kernel_rfl
theorem ti58 : tiOf Go.Proofs.Tryd.prog 58 = some ⟨.fn, 1, 8, [.nilFunc]⟩ := by kernel_rfl
theorem ti59 : tiOf Go.Proofs.Tryd.prog 59 = some ⟨.fn, 1, 8, [.nilFunc]⟩ := by kernel_rfl
theorem ti60 : tiOf Go.Proofs.Tryd.prog 60 = some ⟨.fn, 1, 8, [.nilFunc]⟩ := by kernel_rfl
theorem ti61 : tiOf Go.Proofs.Tryd.prog 61 = some ⟨.fn, 1, 8, [.nilFunc]⟩ := by kernel_rfl
theorem ti62 : tiOf Go.Proofs.Tryd.prog 62 = some ⟨.fn, 1, 8, [.nilFunc]⟩ := by kernel_rfl
theorem ti63 : tiOf Go.Proofs.Tryd.prog 63 = some ⟨.int .u64, 1, 8, [.int .u64 0]⟩ := by kernel_rfl
theorem ti64 : tiOf Go.Proofs.Tryd.prog 64 = some ⟨.pt 5, 1, 8, [.pointer none]⟩ := by kernel_rfl
theorem ti66 : tiOf Go.Proofs.Tryd.prog 66 = some ⟨.fn, 1, 8, [.nilFunc]⟩ := by kernel_rfl
theorem ti67 : tiOf Go.Proofs.Tryd.prog 67 = some ⟨.fn, 1, 8, [.nilFunc]⟩ := by kernel_rfl
theorem ti68 : tiOf Go.Proofs.Tryd.prog 68 = some ⟨.fn, 1, 8, [.nilFunc]⟩ := by kernel_rfl
theorem ti69 : tiOf Go.Proofs.Tryd.prog 69 = some ⟨.fn, 1, 8, [.nilFunc]⟩ := by kernel_rfl
theorem ti70 : tiOf Go.Proofs.Tryd.prog 70 = some ⟨.fn, 1, 8, [.nilFunc]⟩ := by kernel_rfl
theorem ti71 : tiOf Go.Proofs.Tryd.prog 71 = some ⟨.int .u32, 1, 4, [.int .u32 0]⟩ := by kernel_rfl
theorem ti73 : tiOf Go.Proofs.Tryd.prog 73 = some ⟨.fn, 1, 8, [.nilFunc]⟩ := by kernel_rfl
theorem ti74 : tiOf Go.Proofs.Tryd.prog 74 = some ⟨.ot, 1, 8, [.pointer none]⟩ := by kernel_rfl
theorem ti75 : tiOf Go.Proofs.Tryd.prog 75 = some ⟨.fn, 1, 8, [.nilFunc]⟩ := by kernel_rfl
theorem ti76 : tiOf Go.Proofs.Tryd.prog 76 = some ⟨.fn, 1, 8, [.nilFunc]⟩ := by kernel_rfl
theorem ti77 : tiOf Go.Proofs.Tryd.prog 77 = some ⟨.fn, 1, 8, [.nilFunc]⟩ := by kernel_rfl
theorem ti79 : tiOf Go.Proofs.Tryd.prog 79 = some ⟨.fn, 1, 8, [.nilFunc]⟩ := by kernel_rfl
theorem ti80 : tiOf Go.Proofs.Tryd.prog 80 = some ⟨.sl 91, 1, 24, [.slice none 0 0]⟩ := by kernel_rfl
theorem ti82 : tiOf Go.Proofs.Tryd.prog 82 = some ⟨.st [(0, 5), (1, 5)], 2, 2, [.int .u8 0, .int .u8 0]⟩ := by kernel_rfl
theorem ti83 : tiOf Go.Proofs.Tryd.prog 83 = some ⟨.st [(0, 5), (1, 5)], 2, 2, [.int .u8 0, .int .u8 0]⟩ := by kernel_rfl
theorem ti85 : tiOf Go.Proofs.Tryd.prog 85 = some ⟨.pt 91, 1, 8, [.pointer none]⟩ := by kernel_rfl
theorem ti86 : tiOf Go.Proofs.Tryd.prog 86 = some ⟨.fn, 1, 8, [.nilFunc]⟩ := by kernel_rfl
theorem ti87 : tiOf Go.Proofs.Tryd.prog 87 = some ⟨.fn, 1, 8, [.nilFunc]⟩ := by kernel_rfl
theorem ti88 : tiOf Go.Proofs.Tryd.prog 88 = some ⟨.ar 3 21, 3, 12, [.int .i32 0, .int .i32 0, .int .i32 0]⟩ := by kernel_rfl
theorem ti89 : tiOf Go.Proofs.Tryd.prog 89 = some ⟨.ar 3 21, 3, 12, [.int .i32 0, .int .i32 0, .int .i32 0]⟩ := by kernel_rfl
theorem ti90 : tiOf Go.Proofs.Tryd.prog 90 = some ⟨.st [(0, 71), (1, 71), (2, 89)], 5, 20, [.int .u32 0, .int .u32 0, .int .i32 0, .int .i32 0, .int .i32 0]⟩ := by kernel_rfl
theorem ti91 : tiOf Go.Proofs.Tryd.prog 91 = some ⟨.st [(0, 71), (1, 71), (2, 89)], 5, 20, [.int .u32 0, .int .u32 0, .int .i32 0, .int .i32 0, .int .i32 0]⟩ := by kernel_rfl
theorem ti92 : tiOf Go.Proofs.Tryd.prog 92 = some ⟨.st [(0, 17), (1, 17), (2, 17), (3, 9)], 4, 40, [.pointer none, .pointer none, .pointer none, .string ⟨#[]⟩]⟩ := by kernel_rfl
theorem ti93 : tiOf Go.Proofs.Tryd.prog 93 = some ⟨.st [(0, 17), (1, 17), (2, 17), (3, 9)], 4, 40, [.pointer none, .pointer none, .pointer none, .string ⟨#[]⟩]⟩ := by kernel_rfl
theorem ti94 : tiOf Go.Proofs.Tryd.prog 94 = some ⟨.ar 0 16, 0, 0, []⟩ := by kernel_rfl
theorem ti95 : tiOf Go.Proofs.Tryd.prog 95 = some ⟨.st [(0, 94)], 0, 0, []⟩ := by kernel_rfl
theorem ti96 : tiOf Go.Proofs.Tryd.prog 96 = some ⟨.st [(0, 94)], 0, 0, []⟩ := by kernel_rfl
theorem ti97 : tiOf Go.Proofs.Tryd.prog 97 = some ⟨.int .u8, 1, 1, [.int .u8 0]⟩ := by kernel_rfl
theorem ti98 : tiOf Go.Proofs.Tryd.prog 98 = some ⟨.int .u8, 1, 1, [.int .u8 0]⟩ := by kernel_rfl
theorem ti99 : tiOf Go.Proofs.Tryd.prog 99 = some ⟨.fn, 1, 8, [.nilFunc]⟩ := by kernel_rfl
theorem ti100 : tiOf Go.Proofs.Tryd.prog 100 = some ⟨.int .i32, 1, 4, [.int .i32 0]⟩ := by kernel_rfl
theorem ti101 : tiOf Go.Proofs.Tryd.prog 101 = some ⟨.int .i32, 1, 4, [.int .i32 0]⟩ := by kernel_rfl
theorem ti102 : tiOf Go.Proofs.Tryd.prog 102 = some ⟨.st [(0, 12), (1, 12), (2, 71), (3, 97), (4, 5), (5, 5), (6, 98), (7, 99), (8, 64), (9, 100), (10, 101)], 11, 48, [.int .u64 0, .int .u64 0, .int .u32 0, .int .u8 0, .int .u8 0, .int .u8 0, .int .u8 0, .nilFunc, .pointer none, .int .i32 0, .int .i32 0]⟩ := by kernel_rfl
theorem ti103 : tiOf Go.Proofs.Tryd.prog 103 = some ⟨.st [(0, 12), (1, 12), (2, 71), (3, 97), (4, 5), (5, 5), (6, 98), (7, 99), (8, 64), (9, 100), (10, 101)], 11, 48, [.int .u64 0, .int .u64 0, .int .u32 0, .int .u8 0, .int .u8 0, .int .u8 0, .int .u8 0, .nilFunc, .pointer none, .int .i32 0, .int .i32 0]⟩ := by kernel_rfl
end Go.Proofs.YtppmamcoehhopaaDoor.Ti
