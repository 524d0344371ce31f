/- What is proved of the library's searches of strings, laid at this program (printed by the kit's tool). -/
import Derived.Shelf.Small.Strs
import Derived.Shelf.Strings.Shaped
import Derived.Test.YtfgmlnfpecipnaaGreatDoorProg
set_option linter.unusedVariables false
set_option linter.unusedSimpArgs false
set_option linter.unusedSectionVars false
namespace Go.Proofs
open Go.Shelf
def Tryz.lays137_ren : Go.Shelf.Ren := ⟨fun | 137 => 236 | 217 => 281 | 266 => 318 | n => n, fun | 9 => 9 | 5 => 5 | 3 => 3 | n => n, fun | n => n⟩
theorem Tryz.lays137 : Go.Proofs.Lays.n137 Tryz.prog Tryz.lays137_ren := {
  mixed := by kernel_rfl
  f137 := Tryz.func236.trans (congrArg some (by kernel_rfl))
  f217 := Tryz.func281.trans (congrArg some (by kernel_rfl))
  f266 := Tryz.func318.trans (congrArg some (by kernel_rfl))
  t3 := Tryz.underlying3
  a3 := Tryz.isAgg3
  z3 := Tryz.sizeOf3
  v3 := Tryz.zeroValue3
  t5 := Tryz.underlying5
  a5 := Tryz.isAgg5
  z5 := Tryz.sizeOf5
  v5 := Tryz.zeroValue5
  t9 := Tryz.underlying9
  a9 := Tryz.isAgg9
  z9 := Tryz.sizeOf9
  v9 := Tryz.zeroValue9 }
open Go.RowKit in
/-- strings.IndexByte: "IndexByte returns the index of the first instance of c in s, or -1 if c is not present in s.": IT RETURNS 'Lib.indexByte s c'; the world is as it was. (LAID: no walk: one application.) -/
theorem Tryz.strings_IndexByte (s : ByteArray) (c : Int) (w : World) :
    Calls Tryz.prog 236 #[.string s, .int .u8 c] w fun e w' => e = .returned (.int .i64 (Lib.indexByte s.data.toList c.toNat.toUInt8)) ∧ w' = w := Any.strings_IndexByte Tryz.lays137 s c w
def Tryz.lays144_ren : Go.Shelf.Ren := ⟨fun | 144 => 280 | 143 => 317 | 219 => 334 | 217 => 281 | 225 => 341 | 224 => 342 | 267 => 343 | 266 => 318 | 314 => 345 | n => n, fun | 9 => 9 | 4 => 4 | 3 => 3 | 5 => 5 | 46 => 430 | 146 => 482 | 51 => 451 | n => n, fun | 1 => 1 | n => n⟩
theorem Tryz.lays144 : Go.Proofs.Lays.n144 Tryz.prog Tryz.lays144_ren := {
  mixed := by kernel_rfl
  f143 := Tryz.func317.trans (congrArg some (by kernel_rfl))
  f144 := Tryz.func280.trans (congrArg some (by kernel_rfl))
  f217 := Tryz.func281.trans (congrArg some (by kernel_rfl))
  f219 := Tryz.func334.trans (congrArg some (by kernel_rfl))
  f224 := Tryz.func342.trans (congrArg some (by kernel_rfl))
  f225 := Tryz.func341.trans (congrArg some (by kernel_rfl))
  f266 := Tryz.func318.trans (congrArg some (by kernel_rfl))
  f267 := Tryz.func343.trans (congrArg some (by kernel_rfl))
  f314 := Tryz.func345.trans (congrArg some (by kernel_rfl))
  t3 := Tryz.underlying3
  a3 := Tryz.isAgg3
  z3 := Tryz.sizeOf3
  v3 := Tryz.zeroValue3
  t4 := Tryz.underlying4
  a4 := Tryz.isAgg4
  z4 := Tryz.sizeOf4
  v4 := Tryz.zeroValue4
  t5 := Tryz.underlying5
  a5 := Tryz.isAgg5
  z5 := Tryz.sizeOf5
  v5 := Tryz.zeroValue5
  t9 := Tryz.underlying9
  a9 := Tryz.isAgg9
  z9 := Tryz.sizeOf9
  v9 := Tryz.zeroValue9
  t46 := Tryz.underlying430
  a46 := Tryz.isAgg430
  z46 := Tryz.sizeOf430
  v46 := Tryz.zeroValue430
  t51 := Tryz.underlying451
  a51 := Tryz.isAgg451
  z51 := Tryz.sizeOf451
  v51 := Tryz.zeroValue451
  t146 := Tryz.underlying482
  a146 := Tryz.isAgg482
  z146 := Tryz.sizeOf482
  v146 := Tryz.zeroValue482
  g1 := by kernel_rfl }
open Go.RowKit Go.Lib in
/-- strings.Contains: "Contains reports whether substr is within s.": IT RETURNS 'Lib.contains s substr'; the world is as it was. (LAID: no walk: one application.) -/
theorem Tryz.strings_Contains (s sub : ByteArray) (m : Int) (w : World) (hs : s.size < 4294967281) (hm : w.cell? ⟨1, 0, none⟩ = some (.int .i64 m)) :
    Calls Tryz.prog 280 #[.string s, .string sub] w fun e w' => e = .returned (.bool (Lib.contains s.data.toList sub.data.toList)) ∧ w' = w := Any.strings_Contains Tryz.lays144 s sub m w hs hm
end Go.Proofs
