/- Facts on the types and functions of this seat's program, each by the kernel's own reckoning (printed by a program of mine out of the translation's table of types). -/
import Derived.Test.YtfgmlnfpecipnaaGreatDoorLibD
import Derived.Test.YtfgmlnfpecipnaaGreatDoorProg
import Derived.KernelRfl
namespace Go.Proofs
open Go.Mt

instance : TySz Tryz.prog 3 1 := ⟨by kernel_rfl⟩
instance : TyZ Tryz.prog 3 (.int .i64 0) := ⟨by kernel_rfl⟩
instance : TyBoo Tryz.prog 4 := ⟨by kernel_rfl⟩
instance : TySz Tryz.prog 9 1 := ⟨by kernel_rfl⟩
instance : TyStr Tryz.prog 9 := ⟨by kernel_rfl⟩
instance : TyZ Tryz.prog 9 (.str ⟨#[]⟩) := ⟨by kernel_rfl⟩
instance : TyAgg Tryz.prog 23 2 := ⟨by kernel_rfl, by kernel_rfl⟩
instance : TyStruct Tryz.prog 55 [(0, 2), (2, 1), (3, 1), (4, 1)] [.int .i64 0, .int .i64 0, .str ⟨#[]⟩, .bool false, .nili] := ⟨by kernel_rfl, by kernel_rfl⟩
instance : TySlice Tryz.prog 67 148 := ⟨by kernel_rfl⟩
instance : TySlice Tryz.prog 68 251 := ⟨by kernel_rfl⟩
instance : TySlice Tryz.prog 120 9 := ⟨by kernel_rfl⟩
instance : TySlice Tryz.prog 143 245 := ⟨by kernel_rfl⟩
instance : TySz Tryz.prog 148 15 := ⟨by kernel_rfl⟩
instance : TyZ Tryz.prog 148 (.agg [.str ⟨#[]⟩, .int .u8 0, .str ⟨#[]⟩, .sl [], .bool false, .int .u8 0, .int .u8 0, .int .i32 0, .str ⟨#[]⟩, .sl [], .sl [], .int .i64 0, .int .i64 0, .int .i64 0, .int .i64 0]) := ⟨by kernel_rfl⟩
instance : TySlice Tryz.prog 153 158 := ⟨by kernel_rfl⟩
instance : TySz Tryz.prog 158 3 := ⟨by kernel_rfl⟩
instance : TyZ Tryz.prog 158 (.agg [.str ⟨#[]⟩, .int .i64 0, .sl []]) := ⟨by kernel_rfl⟩
instance : TySlice Tryz.prog 170 3 := ⟨by kernel_rfl⟩
instance : TySz Tryz.prog 245 2 := ⟨by kernel_rfl⟩
instance : TyZ Tryz.prog 245 (.agg [.str ⟨#[]⟩, .str ⟨#[]⟩]) := ⟨by kernel_rfl⟩
instance : TySz Tryz.prog 251 16 := ⟨by kernel_rfl⟩
instance : TyZ Tryz.prog 251 (.agg [.int .u8 0, .sl [], .str ⟨#[]⟩, .sl [], .bool false, .int .u8 0, .int .u8 0, .int .i32 0, .str ⟨#[]⟩, .sl [], .sl [], .int .i64 0, .int .i64 0, .sl [], .int .i64 0, .int .i64 0]) := ⟨by kernel_rfl⟩
instance : TySlice Tryz.prog 261 3 := ⟨by kernel_rfl⟩
instance : IsFn Tryz.prog 4 := ⟨fun args w => Tryz.call4 args w⟩
instance : IsFn Tryz.prog 5 := ⟨fun args w => Tryz.call5 args w⟩
instance : IsFn Tryz.prog 6 := ⟨fun args w => Tryz.call6 args w⟩
instance : IsFn Tryz.prog 7 := ⟨fun args w => Tryz.call7 args w⟩
end Go.Proofs
