/- The closed facts of this seat, by a program. -/
import Derived.Test.YtfkpjnomfmjplaaRows
import Derived.Test.YtfkpjnomfmjplaaMore
namespace Go.Proofs.Ytfkpjnomfmjplaa
open Go.Sym
theorem mixed : Try.prog.follows .mixedOrders = true := by kernel_rfl
theorem by3 : bytesT Try.prog 3 = some 8 := by kernel_rfl
theorem by4 : bytesT Try.prog 4 = some 1 := by kernel_rfl
theorem by5 : bytesT Try.prog 5 = some 1 := by kernel_rfl
theorem by91 : bytesT Try.prog 91 = some 24 := by kernel_rfl
theorem en10 : Enters Try.prog 10 := ⟨fun _ _ => by kernel_rfl⟩
theorem en11 : Enters Try.prog 11 := ⟨fun _ _ => by kernel_rfl⟩
theorem en13 : Enters Try.prog 13 := ⟨fun _ _ => by kernel_rfl⟩
theorem en14 : Enters Try.prog 14 := ⟨fun _ _ => by kernel_rfl⟩
theorem en15 : Enters Try.prog 15 := ⟨fun _ _ => by kernel_rfl⟩
theorem en17 : Enters Try.prog 17 := ⟨fun _ _ => by kernel_rfl⟩
theorem en18 : Enters Try.prog 18 := ⟨fun _ _ => by kernel_rfl⟩
theorem en20 : Enters Try.prog 20 := ⟨fun _ _ => by kernel_rfl⟩
theorem en22 : Enters Try.prog 22 := ⟨fun _ _ => by kernel_rfl⟩
theorem en24 : Enters Try.prog 24 := ⟨fun _ _ => by kernel_rfl⟩
theorem en28 : Enters Try.prog 28 := ⟨fun _ _ => by kernel_rfl⟩
theorem en29 : Enters Try.prog 29 := ⟨fun _ _ => by kernel_rfl⟩
theorem en30 : Enters Try.prog 30 := ⟨fun _ _ => by kernel_rfl⟩
theorem en31 : Enters Try.prog 31 := ⟨fun _ _ => by kernel_rfl⟩
theorem en32 : Enters Try.prog 32 := ⟨fun _ _ => by kernel_rfl⟩
theorem en38 : Enters Try.prog 38 := ⟨fun _ _ => by kernel_rfl⟩
theorem en39 : Enters Try.prog 39 := ⟨fun _ _ => by kernel_rfl⟩
theorem en40 : Enters Try.prog 40 := ⟨fun _ _ => by kernel_rfl⟩
theorem en41 : Enters Try.prog 41 := ⟨fun _ _ => by kernel_rfl⟩
theorem en42 : Enters Try.prog 42 := ⟨fun _ _ => by kernel_rfl⟩
theorem en43 : Enters Try.prog 43 := ⟨fun _ _ => by kernel_rfl⟩
theorem en44 : Enters Try.prog 44 := ⟨fun _ _ => by kernel_rfl⟩
theorem en45 : Enters Try.prog 45 := ⟨fun _ _ => by kernel_rfl⟩
theorem en46 : Enters Try.prog 46 := ⟨fun _ _ => by kernel_rfl⟩
theorem en48 : Enters Try.prog 48 := ⟨fun _ _ => by kernel_rfl⟩
theorem en49 : Enters Try.prog 49 := ⟨fun _ _ => by kernel_rfl⟩
theorem en50 : Enters Try.prog 50 := ⟨fun _ _ => by kernel_rfl⟩
theorem en51 : Enters Try.prog 51 := ⟨fun _ _ => by kernel_rfl⟩
theorem en54 : Enters Try.prog 54 := ⟨fun _ _ => by kernel_rfl⟩
theorem en56 : Enters Try.prog 56 := ⟨fun _ _ => by kernel_rfl⟩
theorem en61 : Enters Try.prog 61 := ⟨fun _ _ => by kernel_rfl⟩
theorem en62 : Enters Try.prog 62 := ⟨fun _ _ => by kernel_rfl⟩
theorem en63 : Enters Try.prog 63 := ⟨fun _ _ => by kernel_rfl⟩
theorem en64 : Enters Try.prog 64 := ⟨fun _ _ => by kernel_rfl⟩
theorem en65 : Enters Try.prog 65 := ⟨fun _ _ => by kernel_rfl⟩
theorem en66 : Enters Try.prog 66 := ⟨fun _ _ => by kernel_rfl⟩
theorem en69 : Enters Try.prog 69 := ⟨fun _ _ => by kernel_rfl⟩
theorem en70 : Enters Try.prog 70 := ⟨fun _ _ => by kernel_rfl⟩
theorem en71 : Enters Try.prog 71 := ⟨fun _ _ => by kernel_rfl⟩
theorem en72 : Enters Try.prog 72 := ⟨fun _ _ => by kernel_rfl⟩
theorem en75 : Enters Try.prog 75 := ⟨fun _ _ => by kernel_rfl⟩
theorem en77 : Enters Try.prog 77 := ⟨fun _ _ => by kernel_rfl⟩
theorem en79 : Enters Try.prog 79 := ⟨fun _ _ => by kernel_rfl⟩
theorem en80 : Enters Try.prog 80 := ⟨fun _ _ => by kernel_rfl⟩
theorem en9 : Enters Try.prog 9 := ⟨fun _ _ => by kernel_rfl⟩
theorem fo102_0 : fieldOff Try.prog 102 0 = some 0 := by kernel_rfl
theorem fo102_1 : fieldOff Try.prog 102 1 = some 1 := by kernel_rfl
theorem fo105_0 : fieldOff Try.prog 105 0 = some 0 := by kernel_rfl
theorem fo105_1 : fieldOff Try.prog 105 1 = some 1 := by kernel_rfl
theorem fo105_2 : fieldOff Try.prog 105 2 = some 2 := by kernel_rfl
theorem fo74_0 : fieldOff Try.prog 74 0 = some 0 := by kernel_rfl
theorem fo74_1 : fieldOff Try.prog 74 1 = some 1 := by kernel_rfl
theorem fo74_2 : fieldOff Try.prog 74 2 = some 2 := by kernel_rfl
theorem fo80_0 : fieldOff Try.prog 80 0 = some 0 := by kernel_rfl
theorem fo80_2 : fieldOff Try.prog 80 2 = some 2 := by kernel_rfl
theorem fo80_3 : fieldOff Try.prog 80 3 = some 3 := by kernel_rfl
theorem fo80_4 : fieldOff Try.prog 80 4 = some 4 := by kernel_rfl
theorem fo80_5 : fieldOff Try.prog 80 5 = some 5 := by kernel_rfl
theorem fo91_0 : fieldOff Try.prog 91 0 = some 0 := by kernel_rfl
theorem fo91_1 : fieldOff Try.prog 91 1 = some 1 := by kernel_rfl
theorem pl102_0 : fieldPl Try.prog 102 0 = some (0, 1) := by kernel_rfl
theorem pl102_1 : fieldPl Try.prog 102 1 = some (1, 1) := by kernel_rfl
theorem pl105_0 : fieldPl Try.prog 105 0 = some (0, 1) := by kernel_rfl
theorem pl105_1 : fieldPl Try.prog 105 1 = some (1, 1) := by kernel_rfl
theorem pl74_0 : fieldPl Try.prog 74 0 = some (0, 1) := by kernel_rfl
theorem pl74_1 : fieldPl Try.prog 74 1 = some (1, 1) := by kernel_rfl
theorem pl80_0 : fieldPl Try.prog 80 0 = some (0, 1) := by kernel_rfl
theorem pl80_2 : fieldPl Try.prog 80 2 = some (2, 1) := by kernel_rfl
theorem pl91_0 : fieldPl Try.prog 91 0 = some (0, 1) := by kernel_rfl
theorem st102 : isStruct Try.prog 102 = true := by kernel_rfl
theorem st105 : isStruct Try.prog 105 = true := by kernel_rfl
theorem st74 : isStruct Try.prog 74 = true := by kernel_rfl
theorem st80 : isStruct Try.prog 80 = true := by kernel_rfl
theorem st91 : isStruct Try.prog 91 = true := by kernel_rfl
theorem ty102 : tyOf Try.prog 102 = some (true, 2) := by kernel_rfl
theorem ty103 : tyOf Try.prog 103 = some (true, 256) := by kernel_rfl
theorem ty105 : tyOf Try.prog 105 = some (true, 258) := by kernel_rfl
theorem ty119 : tyOf Try.prog 119 = some (false, 1) := by kernel_rfl
theorem ty23 : tyOf Try.prog 23 = some (false, 1) := by kernel_rfl
theorem ty3 : tyOf Try.prog 3 = some (false, 1) := by kernel_rfl
theorem ty36 : tyOf Try.prog 36 = some (false, 1) := by kernel_rfl
theorem ty4 : tyOf Try.prog 4 = some (false, 1) := by kernel_rfl
theorem ty42 : tyOf Try.prog 42 = some (false, 1) := by kernel_rfl
theorem ty5 : tyOf Try.prog 5 = some (false, 1) := by kernel_rfl
theorem ty53 : tyOf Try.prog 53 = some (false, 1) := by kernel_rfl
theorem ty58 : tyOf Try.prog 58 = some (false, 1) := by kernel_rfl
theorem ty72 : tyOf Try.prog 72 = some (false, 1) := by kernel_rfl
theorem ty74 : tyOf Try.prog 74 = some (true, 3) := by kernel_rfl
theorem ty76 : tyOf Try.prog 76 = some (false, 1) := by kernel_rfl
theorem ty77 : tyOf Try.prog 77 = some (false, 1) := by kernel_rfl
theorem ty80 : tyOf Try.prog 80 = some (true, 7) := by kernel_rfl
theorem ty9 : tyOf Try.prog 9 = some (false, 1) := by kernel_rfl
theorem ty91 : tyOf Try.prog 91 = some (true, 2) := by kernel_rfl
theorem zero102 : zeroOf Try.prog 102 = some [.int .i64 0, .int .i64 0] := by kernel_rfl
theorem zero105 : zeroOf Try.prog 105 = some [.int .i64 0, .int .i64 0, .int .i64 0, .int .i64 0, .int .i64 0, .int .i64 0, .int .i64 0, .int .i64 0, .int .i64 0, .int .i64 0, .int .i64 0, .int .i64 0, .int .i64 0, .int .i64 0, .int .i64 0, .int .i64 0, .int .i64 0, .int .i64 0, .int .i64 0, .int .i64 0, .int .i64 0, .int .i64 0, .int .i64 0, .int .i64 0, .int .i64 0, .int .i64 0, .int .i64 0, .int .i64 0, .int .i64 0, .int .i64 0, .int .i64 0, .int .i64 0, .int .i64 0, .int .i64 0, .int .i64 0, .int .i64 0, .int .i64 0, .int .i64 0, .int .i64 0, .int .i64 0, .int .i64 0, .int .i64 0, .int .i64 0, .int .i64 0, .int .i64 0, .int .i64 0, .int .i64 0, .int .i64 0, .int .i64 0, .int .i64 0, .int .i64 0, .int .i64 0, .int .i64 0, .int .i64 0, .int .i64 0, .int .i64 0, .int .i64 0, .int .i64 0, .int .i64 0, .int .i64 0, .int .i64 0, .int .i64 0, .int .i64 0, .int .i64 0, .int .i64 0, .int .i64 0, .int .i64 0, .int .i64 0, .int .i64 0, .int .i64 0, .int .i64 0, .int .i64 0, .int .i64 0, .int .i64 0, .int .i64 0, .int .i64 0, .int .i64 0, .int .i64 0, .int .i64 0, .int .i64 0, .int .i64 0, .int .i64 0, .int .i64 0, .int .i64 0, .int .i64 0, .int .i64 0, .int .i64 0, .int .i64 0, .int .i64 0, .int .i64 0, .int .i64 0, .int .i64 0, .int .i64 0, .int .i64 0, .int .i64 0, .int .i64 0, .int .i64 0, .int .i64 0, .int .i64 0, .int .i64 0, .int .i64 0, .int .i64 0, .int .i64 0, .int .i64 0, .int .i64 0, .int .i64 0, .int .i64 0, .int .i64 0, .int .i64 0, .int .i64 0, .int .i64 0, .int .i64 0, .int .i64 0, .int .i64 0, .int .i64 0, .int .i64 0, .int .i64 0, .int .i64 0, .int .i64 0, .int .i64 0, .int .i64 0, .int .i64 0, .int .i64 0, .int .i64 0, .int .i64 0, .int .i64 0, .int .i64 0, .int .i64 0, .int .i64 0, .int .i64 0, .int .i64 0, .int .i64 0, .int .i64 0, .int .i64 0, .int .i64 0, .int .i64 0, .int .i64 0, .int .i64 0, .int .i64 0, .int .i64 0, .int .i64 0, .int .i64 0, .int .i64 0, .int .i64 0, .int .i64 0, .int .i64 0, .int .i64 0, .int .i64 0, .int .i64 0, .int .i64 0, .int .i64 0, .int .i64 0, .int .i64 0, .int .i64 0, .int .i64 0, .int .i64 0, .int .i64 0, .int .i64 0, .int .i64 0, .int .i64 0, .int .i64 0, .int .i64 0, .int .i64 0, .int .i64 0, .int .i64 0, .int .i64 0, .int .i64 0, .int .i64 0, .int .i64 0, .int .i64 0, .int .i64 0, .int .i64 0, .int .i64 0, .int .i64 0, .int .i64 0, .int .i64 0, .int .i64 0, .int .i64 0, .int .i64 0, .int .i64 0, .int .i64 0, .int .i64 0, .int .i64 0, .int .i64 0, .int .i64 0, .int .i64 0, .int .i64 0, .int .i64 0, .int .i64 0, .int .i64 0, .int .i64 0, .int .i64 0, .int .i64 0, .int .i64 0, .int .i64 0, .int .i64 0, .int .i64 0, .int .i64 0, .int .i64 0, .int .i64 0, .int .i64 0, .int .i64 0, .int .i64 0, .int .i64 0, .int .i64 0, .int .i64 0, .int .i64 0, .int .i64 0, .int .i64 0, .int .i64 0, .int .i64 0, .int .i64 0, .int .i64 0, .int .i64 0, .int .i64 0, .int .i64 0, .int .i64 0, .int .i64 0, .int .i64 0, .int .i64 0, .int .i64 0, .int .i64 0, .int .i64 0, .int .i64 0, .int .i64 0, .int .i64 0, .int .i64 0, .int .i64 0, .int .i64 0, .int .i64 0, .int .i64 0, .int .i64 0, .int .i64 0, .int .i64 0, .int .i64 0, .int .i64 0, .int .i64 0, .int .i64 0, .int .i64 0, .int .i64 0, .int .i64 0, .int .i64 0, .int .i64 0, .int .i64 0, .int .i64 0, .int .i64 0, .int .i64 0, .int .i64 0, .int .i64 0, .int .i64 0, .int .i64 0, .int .i64 0, .int .i64 0, .int .i64 0, .int .i64 0, .int .i64 0, .int .i64 0, .int .i64 0] := by kernel_rfl
theorem zero119 : zeroOf Try.prog 119 = some [.map none] := by kernel_rfl
theorem zero3 : zeroOf Try.prog 3 = some [.int .i64 0] := by kernel_rfl
theorem zero36 : zeroOf Try.prog 36 = some [.slice none 0 0] := by kernel_rfl
theorem zero4 : zeroOf Try.prog 4 = some [.bool false] := by kernel_rfl
theorem zero5 : zeroOf Try.prog 5 = some [.int .u8 0] := by kernel_rfl
theorem zero74 : zeroOf Try.prog 74 = some [.pointer none, .map none, .int .i64 0] := by kernel_rfl
theorem zero76 : zeroOf Try.prog 76 = some [.pointer none] := by kernel_rfl
theorem zero80 : zeroOf Try.prog 80 = some [.int .i64 0, .pointer none, .slice none 0 0, .slice none 0 0, .bool false, .bool false, .string ByteArray.empty] := by kernel_rfl
theorem zero91 : zeroOf Try.prog 91 = some [.string ByteArray.empty, .int .i64 0] := by kernel_rfl
theorem zv102 : zeroVal Try.prog 102 = some (.agg #[.int .i64 0, .int .i64 0]) := by kernel_rfl
theorem zv3 : zeroVal Try.prog 3 = some (.int .i64 0) := by kernel_rfl
theorem zv4 : zeroVal Try.prog 4 = some (.bool false) := by kernel_rfl
theorem zv5 : zeroVal Try.prog 5 = some (.int .u8 0) := by kernel_rfl
theorem zv76 : zeroVal Try.prog 76 = some (.pointer none) := by kernel_rfl
theorem zv91 : zeroVal Try.prog 91 = some (.agg #[.string ByteArray.empty, .int .i64 0]) := by kernel_rfl
end Go.Proofs.Ytfkpjnomfmjplaa
