/- The closed facts of this seat, by a program. -/
import Derived.Test.YtfkpjnomfmjplaaGreatRows
import Derived.Test.YtfkpjnomfmjplaaGreatMore
namespace Go.Proofs.YtfkpjnomfmjplaaGreat
open Go.Sym
theorem mixed : Tryz.prog.follows .mixedOrders = true := by kernel_rfl
theorem by104 : bytesT Tryz.prog 104 = some 24 := by kernel_rfl
theorem by3 : bytesT Tryz.prog 3 = some 8 := by kernel_rfl
theorem by34 : bytesT Tryz.prog 34 = some 64 := by kernel_rfl
theorem by5 : bytesT Tryz.prog 5 = some 1 := by kernel_rfl
theorem by9 : bytesT Tryz.prog 9 = some 16 := by kernel_rfl
theorem en10 : Enters Tryz.prog 10 := ⟨fun _ _ => by kernel_rfl⟩
theorem en11 : Enters Tryz.prog 11 := ⟨fun _ _ => by kernel_rfl⟩
theorem en12 : Enters Tryz.prog 12 := ⟨fun _ _ => by kernel_rfl⟩
theorem en13 : Enters Tryz.prog 13 := ⟨fun _ _ => by kernel_rfl⟩
theorem en14 : Enters Tryz.prog 14 := ⟨fun _ _ => by kernel_rfl⟩
theorem en15 : Enters Tryz.prog 15 := ⟨fun _ _ => by kernel_rfl⟩
theorem en16 : Enters Tryz.prog 16 := ⟨fun _ _ => by kernel_rfl⟩
theorem en19 : Enters Tryz.prog 19 := ⟨fun _ _ => by kernel_rfl⟩
theorem en23 : Enters Tryz.prog 23 := ⟨fun _ _ => by kernel_rfl⟩
theorem en25 : Enters Tryz.prog 25 := ⟨fun _ _ => by kernel_rfl⟩
theorem en26 : Enters Tryz.prog 26 := ⟨fun _ _ => by kernel_rfl⟩
theorem en27 : Enters Tryz.prog 27 := ⟨fun _ _ => by kernel_rfl⟩
theorem en28 : Enters Tryz.prog 28 := ⟨fun _ _ => by kernel_rfl⟩
theorem en30 : Enters Tryz.prog 30 := ⟨fun _ _ => by kernel_rfl⟩
theorem en31 : Enters Tryz.prog 31 := ⟨fun _ _ => by kernel_rfl⟩
theorem en32 : Enters Tryz.prog 32 := ⟨fun _ _ => by kernel_rfl⟩
theorem en33 : Enters Tryz.prog 33 := ⟨fun _ _ => by kernel_rfl⟩
theorem en34 : Enters Tryz.prog 34 := ⟨fun _ _ => by kernel_rfl⟩
theorem en35 : Enters Tryz.prog 35 := ⟨fun _ _ => by kernel_rfl⟩
theorem en36 : Enters Tryz.prog 36 := ⟨fun _ _ => by kernel_rfl⟩
theorem en37 : Enters Tryz.prog 37 := ⟨fun _ _ => by kernel_rfl⟩
theorem en38 : Enters Tryz.prog 38 := ⟨fun _ _ => by kernel_rfl⟩
theorem en39 : Enters Tryz.prog 39 := ⟨fun _ _ => by kernel_rfl⟩
theorem en40 : Enters Tryz.prog 40 := ⟨fun _ _ => by kernel_rfl⟩
theorem en41 : Enters Tryz.prog 41 := ⟨fun _ _ => by kernel_rfl⟩
theorem en42 : Enters Tryz.prog 42 := ⟨fun _ _ => by kernel_rfl⟩
theorem en43 : Enters Tryz.prog 43 := ⟨fun _ _ => by kernel_rfl⟩
theorem en44 : Enters Tryz.prog 44 := ⟨fun _ _ => by kernel_rfl⟩
theorem en45 : Enters Tryz.prog 45 := ⟨fun _ _ => by kernel_rfl⟩
theorem en46 : Enters Tryz.prog 46 := ⟨fun _ _ => by kernel_rfl⟩
theorem en47 : Enters Tryz.prog 47 := ⟨fun _ _ => by kernel_rfl⟩
theorem en48 : Enters Tryz.prog 48 := ⟨fun _ _ => by kernel_rfl⟩
theorem en49 : Enters Tryz.prog 49 := ⟨fun _ _ => by kernel_rfl⟩
theorem en50 : Enters Tryz.prog 50 := ⟨fun _ _ => by kernel_rfl⟩
theorem en51 : Enters Tryz.prog 51 := ⟨fun _ _ => by kernel_rfl⟩
theorem en52 : Enters Tryz.prog 52 := ⟨fun _ _ => by kernel_rfl⟩
theorem en53 : Enters Tryz.prog 53 := ⟨fun _ _ => by kernel_rfl⟩
theorem en54 : Enters Tryz.prog 54 := ⟨fun _ _ => by kernel_rfl⟩
theorem en55 : Enters Tryz.prog 55 := ⟨fun _ _ => by kernel_rfl⟩
theorem en56 : Enters Tryz.prog 56 := ⟨fun _ _ => by kernel_rfl⟩
theorem en57 : Enters Tryz.prog 57 := ⟨fun _ _ => by kernel_rfl⟩
theorem en58 : Enters Tryz.prog 58 := ⟨fun _ _ => by kernel_rfl⟩
theorem en59 : Enters Tryz.prog 59 := ⟨fun _ _ => by kernel_rfl⟩
theorem en6 : Enters Tryz.prog 6 := ⟨fun _ _ => by kernel_rfl⟩
theorem en60 : Enters Tryz.prog 60 := ⟨fun _ _ => by kernel_rfl⟩
theorem en61 : Enters Tryz.prog 61 := ⟨fun _ _ => by kernel_rfl⟩
theorem en62 : Enters Tryz.prog 62 := ⟨fun _ _ => by kernel_rfl⟩
theorem en63 : Enters Tryz.prog 63 := ⟨fun _ _ => by kernel_rfl⟩
theorem en64 : Enters Tryz.prog 64 := ⟨fun _ _ => by kernel_rfl⟩
theorem en65 : Enters Tryz.prog 65 := ⟨fun _ _ => by kernel_rfl⟩
theorem en66 : Enters Tryz.prog 66 := ⟨fun _ _ => by kernel_rfl⟩
theorem en67 : Enters Tryz.prog 67 := ⟨fun _ _ => by kernel_rfl⟩
theorem en68 : Enters Tryz.prog 68 := ⟨fun _ _ => by kernel_rfl⟩
theorem en69 : Enters Tryz.prog 69 := ⟨fun _ _ => by kernel_rfl⟩
theorem en7 : Enters Tryz.prog 7 := ⟨fun _ _ => by kernel_rfl⟩
theorem en70 : Enters Tryz.prog 70 := ⟨fun _ _ => by kernel_rfl⟩
theorem en71 : Enters Tryz.prog 71 := ⟨fun _ _ => by kernel_rfl⟩
theorem en72 : Enters Tryz.prog 72 := ⟨fun _ _ => by kernel_rfl⟩
theorem en73 : Enters Tryz.prog 73 := ⟨fun _ _ => by kernel_rfl⟩
theorem en74 : Enters Tryz.prog 74 := ⟨fun _ _ => by kernel_rfl⟩
theorem en75 : Enters Tryz.prog 75 := ⟨fun _ _ => by kernel_rfl⟩
theorem en76 : Enters Tryz.prog 76 := ⟨fun _ _ => by kernel_rfl⟩
theorem en77 : Enters Tryz.prog 77 := ⟨fun _ _ => by kernel_rfl⟩
theorem en78 : Enters Tryz.prog 78 := ⟨fun _ _ => by kernel_rfl⟩
theorem en8 : Enters Tryz.prog 8 := ⟨fun _ _ => by kernel_rfl⟩
theorem en81 : Enters Tryz.prog 81 := ⟨fun _ _ => by kernel_rfl⟩
theorem en82 : Enters Tryz.prog 82 := ⟨fun _ _ => by kernel_rfl⟩
theorem en9 : Enters Tryz.prog 9 := ⟨fun _ _ => by kernel_rfl⟩
theorem en95 : Enters Tryz.prog 95 := ⟨fun _ _ => by kernel_rfl⟩
theorem fo104_0 : fieldOff Tryz.prog 104 0 = some 0 := by kernel_rfl
theorem fo104_1 : fieldOff Tryz.prog 104 1 = some 1 := by kernel_rfl
theorem fo24_0 : fieldOff Tryz.prog 24 0 = some 0 := by kernel_rfl
theorem fo24_1 : fieldOff Tryz.prog 24 1 = some 1 := by kernel_rfl
theorem fo34_0 : fieldOff Tryz.prog 34 0 = some 0 := by kernel_rfl
theorem fo34_1 : fieldOff Tryz.prog 34 1 = some 1 := by kernel_rfl
theorem fo34_2 : fieldOff Tryz.prog 34 2 = some 2 := by kernel_rfl
theorem fo34_3 : fieldOff Tryz.prog 34 3 = some 3 := by kernel_rfl
theorem fo34_4 : fieldOff Tryz.prog 34 4 = some 4 := by kernel_rfl
theorem fo37_0 : fieldOff Tryz.prog 37 0 = some 0 := by kernel_rfl
theorem fo37_1 : fieldOff Tryz.prog 37 1 = some 1 := by kernel_rfl
theorem fo37_2 : fieldOff Tryz.prog 37 2 = some 2 := by kernel_rfl
theorem fo45_0 : fieldOff Tryz.prog 45 0 = some 0 := by kernel_rfl
theorem fo45_1 : fieldOff Tryz.prog 45 1 = some 1 := by kernel_rfl
theorem fo84_0 : fieldOff Tryz.prog 84 0 = some 0 := by kernel_rfl
theorem fo84_1 : fieldOff Tryz.prog 84 1 = some 1 := by kernel_rfl
theorem fo84_2 : fieldOff Tryz.prog 84 2 = some 2 := by kernel_rfl
theorem fo84_3 : fieldOff Tryz.prog 84 3 = some 3 := by kernel_rfl
theorem fo84_4 : fieldOff Tryz.prog 84 4 = some 4 := by kernel_rfl
theorem fo84_5 : fieldOff Tryz.prog 84 5 = some 5 := by kernel_rfl
theorem fo84_6 : fieldOff Tryz.prog 84 6 = some 6 := by kernel_rfl
theorem fo87_0 : fieldOff Tryz.prog 87 0 = some 0 := by kernel_rfl
theorem fo87_1 : fieldOff Tryz.prog 87 1 = some 1 := by kernel_rfl
theorem fo87_2 : fieldOff Tryz.prog 87 2 = some 2 := by kernel_rfl
theorem fo89_0 : fieldOff Tryz.prog 89 0 = some 0 := by kernel_rfl
theorem fo89_1 : fieldOff Tryz.prog 89 1 = some 1 := by kernel_rfl
theorem fo92_0 : fieldOff Tryz.prog 92 0 = some 0 := by kernel_rfl
theorem fo92_1 : fieldOff Tryz.prog 92 1 = some 1 := by kernel_rfl
theorem fo92_2 : fieldOff Tryz.prog 92 2 = some 2 := by kernel_rfl
theorem ft45_1 : fieldTy Tryz.prog 45 1 = some (1, false, 1) := by kernel_rfl
theorem pl104_0 : fieldPl Tryz.prog 104 0 = some (0, 1) := by kernel_rfl
theorem pl110_0 : fieldPl Tryz.prog 110 0 = some (0, 1) := by kernel_rfl
theorem pl113_0 : fieldPl Tryz.prog 113 0 = some (0, 1) := by kernel_rfl
theorem pl113_1 : fieldPl Tryz.prog 113 1 = some (1, 1) := by kernel_rfl
theorem pl45_0 : fieldPl Tryz.prog 45 0 = some (0, 1) := by kernel_rfl
theorem pl45_1 : fieldPl Tryz.prog 45 1 = some (1, 1) := by kernel_rfl
theorem pl84_0 : fieldPl Tryz.prog 84 0 = some (0, 1) := by kernel_rfl
theorem pl84_2 : fieldPl Tryz.prog 84 2 = some (2, 1) := by kernel_rfl
theorem pl84_5 : fieldPl Tryz.prog 84 5 = some (5, 1) := by kernel_rfl
theorem pl84_6 : fieldPl Tryz.prog 84 6 = some (6, 1) := by kernel_rfl
theorem pl87_0 : fieldPl Tryz.prog 87 0 = some (0, 1) := by kernel_rfl
theorem pl87_1 : fieldPl Tryz.prog 87 1 = some (1, 1) := by kernel_rfl
theorem pl89_0 : fieldPl Tryz.prog 89 0 = some (0, 1) := by kernel_rfl
theorem pl89_1 : fieldPl Tryz.prog 89 1 = some (1, 1) := by kernel_rfl
theorem pl92_0 : fieldPl Tryz.prog 92 0 = some (0, 1) := by kernel_rfl
theorem pl92_1 : fieldPl Tryz.prog 92 1 = some (1, 1) := by kernel_rfl
theorem st104 : isStruct Tryz.prog 104 = true := by kernel_rfl
theorem st110 : isStruct Tryz.prog 110 = true := by kernel_rfl
theorem st113 : isStruct Tryz.prog 113 = true := by kernel_rfl
theorem st45 : isStruct Tryz.prog 45 = true := by kernel_rfl
theorem st84 : isStruct Tryz.prog 84 = true := by kernel_rfl
theorem st87 : isStruct Tryz.prog 87 = true := by kernel_rfl
theorem st89 : isStruct Tryz.prog 89 = true := by kernel_rfl
theorem st92 : isStruct Tryz.prog 92 = true := by kernel_rfl
theorem ty104 : tyOf Tryz.prog 104 = some (true, 2) := by kernel_rfl
theorem ty110 : tyOf Tryz.prog 110 = some (true, 3) := by kernel_rfl
theorem ty113 : tyOf Tryz.prog 113 = some (true, 258) := by kernel_rfl
theorem ty114 : tyOf Tryz.prog 114 = some (false, 1) := by kernel_rfl
theorem ty22 : tyOf Tryz.prog 22 = some (false, 1) := by kernel_rfl
theorem ty24 : tyOf Tryz.prog 24 = some (true, 2) := by kernel_rfl
theorem ty26 : tyOf Tryz.prog 26 = some (false, 1) := by kernel_rfl
theorem ty3 : tyOf Tryz.prog 3 = some (false, 1) := by kernel_rfl
theorem ty32 : tyOf Tryz.prog 32 = some (false, 1) := by kernel_rfl
theorem ty34 : tyOf Tryz.prog 34 = some (true, 5) := by kernel_rfl
theorem ty35 : tyOf Tryz.prog 35 = some (false, 1) := by kernel_rfl
theorem ty37 : tyOf Tryz.prog 37 = some (true, 3) := by kernel_rfl
theorem ty39 : tyOf Tryz.prog 39 = some (false, 1) := by kernel_rfl
theorem ty4 : tyOf Tryz.prog 4 = some (false, 1) := by kernel_rfl
theorem ty41 : tyOf Tryz.prog 41 = some (false, 1) := by kernel_rfl
theorem ty45 : tyOf Tryz.prog 45 = some (true, 2) := by kernel_rfl
theorem ty5 : tyOf Tryz.prog 5 = some (false, 1) := by kernel_rfl
theorem ty56 : tyOf Tryz.prog 56 = some (false, 1) := by kernel_rfl
theorem ty75 : tyOf Tryz.prog 75 = some (false, 1) := by kernel_rfl
theorem ty81 : tyOf Tryz.prog 81 = some (false, 1) := by kernel_rfl
theorem ty82 : tyOf Tryz.prog 82 = some (false, 1) := by kernel_rfl
theorem ty84 : tyOf Tryz.prog 84 = some (true, 7) := by kernel_rfl
theorem ty85 : tyOf Tryz.prog 85 = some (false, 1) := by kernel_rfl
theorem ty87 : tyOf Tryz.prog 87 = some (true, 3) := by kernel_rfl
theorem ty89 : tyOf Tryz.prog 89 = some (true, 2) := by kernel_rfl
theorem ty9 : tyOf Tryz.prog 9 = some (false, 1) := by kernel_rfl
theorem ty90 : tyOf Tryz.prog 90 = some (true, 256) := by kernel_rfl
theorem ty92 : tyOf Tryz.prog 92 = some (true, 258) := by kernel_rfl
theorem zero104 : zeroOf Tryz.prog 104 = some [.string ByteArray.empty, .int .i64 0] := by kernel_rfl
theorem zero110 : zeroOf Tryz.prog 110 = some [.pointer none, .slice none 0 0, .int .i64 0] := by kernel_rfl
theorem zero113 : zeroOf Tryz.prog 113 = some [.int .i64 0, .int .i64 0, .int .i64 0, .int .i64 0, .int .i64 0, .int .i64 0, .int .i64 0, .int .i64 0, .int .i64 0, .int .i64 0, .int .i64 0, .int .i64 0, .int .i64 0, .int .i64 0, .int .i64 0, .int .i64 0, .int .i64 0, .int .i64 0, .int .i64 0, .int .i64 0, .int .i64 0, .int .i64 0, .int .i64 0, .int .i64 0, .int .i64 0, .int .i64 0, .int .i64 0, .int .i64 0, .int .i64 0, .int .i64 0, .int .i64 0, .int .i64 0, .int .i64 0, .int .i64 0, .int .i64 0, .int .i64 0, .int .i64 0, .int .i64 0, .int .i64 0, .int .i64 0, .int .i64 0, .int .i64 0, .int .i64 0, .int .i64 0, .int .i64 0, .int .i64 0, .int .i64 0, .int .i64 0, .int .i64 0, .int .i64 0, .int .i64 0, .int .i64 0, .int .i64 0, .int .i64 0, .int .i64 0, .int .i64 0, .int .i64 0, .int .i64 0, .int .i64 0, .int .i64 0, .int .i64 0, .int .i64 0, .int .i64 0, .int .i64 0, .int .i64 0, .int .i64 0, .int .i64 0, .int .i64 0, .int .i64 0, .int .i64 0, .int .i64 0, .int .i64 0, .int .i64 0, .int .i64 0, .int .i64 0, .int .i64 0, .int .i64 0, .int .i64 0, .int .i64 0, .int .i64 0, .int .i64 0, .int .i64 0, .int .i64 0, .int .i64 0, .int .i64 0, .int .i64 0, .int .i64 0, .int .i64 0, .int .i64 0, .int .i64 0, .int .i64 0, .int .i64 0, .int .i64 0, .int .i64 0, .int .i64 0, .int .i64 0, .int .i64 0, .int .i64 0, .int .i64 0, .int .i64 0, .int .i64 0, .int .i64 0, .int .i64 0, .int .i64 0, .int .i64 0, .int .i64 0, .int .i64 0, .int .i64 0, .int .i64 0, .int .i64 0, .int .i64 0, .int .i64 0, .int .i64 0, .int .i64 0, .int .i64 0, .int .i64 0, .int .i64 0, .int .i64 0, .int .i64 0, .int .i64 0, .int .i64 0, .int .i64 0, .int .i64 0, .int .i64 0, .int .i64 0, .int .i64 0, .int .i64 0, .int .i64 0, .int .i64 0, .int .i64 0, .int .i64 0, .int .i64 0, .int .i64 0, .int .i64 0, .int .i64 0, .int .i64 0, .int .i64 0, .int .i64 0, .int .i64 0, .int .i64 0, .int .i64 0, .int .i64 0, .int .i64 0, .int .i64 0, .int .i64 0, .int .i64 0, .int .i64 0, .int .i64 0, .int .i64 0, .int .i64 0, .int .i64 0, .int .i64 0, .int .i64 0, .int .i64 0, .int .i64 0, .int .i64 0, .int .i64 0, .int .i64 0, .int .i64 0, .int .i64 0, .int .i64 0, .int .i64 0, .int .i64 0, .int .i64 0, .int .i64 0, .int .i64 0, .int .i64 0, .int .i64 0, .int .i64 0, .int .i64 0, .int .i64 0, .int .i64 0, .int .i64 0, .int .i64 0, .int .i64 0, .int .i64 0, .int .i64 0, .int .i64 0, .int .i64 0, .int .i64 0, .int .i64 0, .int .i64 0, .int .i64 0, .int .i64 0, .int .i64 0, .int .i64 0, .int .i64 0, .int .i64 0, .int .i64 0, .int .i64 0, .int .i64 0, .int .i64 0, .int .i64 0, .int .i64 0, .int .i64 0, .int .i64 0, .int .i64 0, .int .i64 0, .int .i64 0, .int .i64 0, .int .i64 0, .int .i64 0, .int .i64 0, .int .i64 0, .int .i64 0, .int .i64 0, .int .i64 0, .int .i64 0, .int .i64 0, .int .i64 0, .int .i64 0, .int .i64 0, .int .i64 0, .int .i64 0, .int .i64 0, .int .i64 0, .int .i64 0, .int .i64 0, .int .i64 0, .int .i64 0, .int .i64 0, .int .i64 0, .int .i64 0, .int .i64 0, .int .i64 0, .int .i64 0, .int .i64 0, .int .i64 0, .int .i64 0, .int .i64 0, .int .i64 0, .int .i64 0, .int .i64 0, .int .i64 0, .int .i64 0, .int .i64 0, .int .i64 0, .int .i64 0, .int .i64 0, .int .i64 0, .int .i64 0, .int .i64 0, .int .i64 0, .int .i64 0, .int .i64 0, .int .i64 0, .int .i64 0, .int .i64 0, .int .i64 0, .int .i64 0, .int .i64 0, .int .i64 0, .int .i64 0, .int .i64 0, .int .i64 0, .int .i64 0, .int .i64 0, .int .i64 0] := by kernel_rfl
theorem zero3 : zeroOf Tryz.prog 3 = some [.int .i64 0] := by kernel_rfl
theorem zero32 : zeroOf Tryz.prog 32 = some [.slice none 0 0] := by kernel_rfl
theorem zero34 : zeroOf Tryz.prog 34 = some [.int .i64 0, .int .i64 0, .int .i64 0, .string ByteArray.empty, .slice none 0 0] := by kernel_rfl
theorem zero37 : zeroOf Tryz.prog 37 = some [.int .i64 0, .slice none 0 0, .int .i64 0] := by kernel_rfl
theorem zero39 : zeroOf Tryz.prog 39 = some [.map none] := by kernel_rfl
theorem zero4 : zeroOf Tryz.prog 4 = some [.bool false] := by kernel_rfl
theorem zero45 : zeroOf Tryz.prog 45 = some [.int .i64 0, .slice none 0 0] := by kernel_rfl
theorem zero5 : zeroOf Tryz.prog 5 = some [.int .u8 0] := by kernel_rfl
theorem zero75 : zeroOf Tryz.prog 75 = some [.pointer none] := by kernel_rfl
theorem zero84 : zeroOf Tryz.prog 84 = some [.int .i64 0, .pointer none, .slice none 0 0, .slice none 0 0, .bool false, .bool false, .string ByteArray.empty] := by kernel_rfl
theorem zero87 : zeroOf Tryz.prog 87 = some [.pointer none, .map none, .int .i64 0] := by kernel_rfl
theorem zero89 : zeroOf Tryz.prog 89 = some [.int .i64 0, .int .i64 0] := by kernel_rfl
theorem zero9 : zeroOf Tryz.prog 9 = some [.string ByteArray.empty] := by kernel_rfl
theorem zero92 : zeroOf Tryz.prog 92 = some [.int .i64 0, .int .i64 0, .int .i64 0, .int .i64 0, .int .i64 0, .int .i64 0, .int .i64 0, .int .i64 0, .int .i64 0, .int .i64 0, .int .i64 0, .int .i64 0, .int .i64 0, .int .i64 0, .int .i64 0, .int .i64 0, .int .i64 0, .int .i64 0, .int .i64 0, .int .i64 0, .int .i64 0, .int .i64 0, .int .i64 0, .int .i64 0, .int .i64 0, .int .i64 0, .int .i64 0, .int .i64 0, .int .i64 0, .int .i64 0, .int .i64 0, .int .i64 0, .int .i64 0, .int .i64 0, .int .i64 0, .int .i64 0, .int .i64 0, .int .i64 0, .int .i64 0, .int .i64 0, .int .i64 0, .int .i64 0, .int .i64 0, .int .i64 0, .int .i64 0, .int .i64 0, .int .i64 0, .int .i64 0, .int .i64 0, .int .i64 0, .int .i64 0, .int .i64 0, .int .i64 0, .int .i64 0, .int .i64 0, .int .i64 0, .int .i64 0, .int .i64 0, .int .i64 0, .int .i64 0, .int .i64 0, .int .i64 0, .int .i64 0, .int .i64 0, .int .i64 0, .int .i64 0, .int .i64 0, .int .i64 0, .int .i64 0, .int .i64 0, .int .i64 0, .int .i64 0, .int .i64 0, .int .i64 0, .int .i64 0, .int .i64 0, .int .i64 0, .int .i64 0, .int .i64 0, .int .i64 0, .int .i64 0, .int .i64 0, .int .i64 0, .int .i64 0, .int .i64 0, .int .i64 0, .int .i64 0, .int .i64 0, .int .i64 0, .int .i64 0, .int .i64 0, .int .i64 0, .int .i64 0, .int .i64 0, .int .i64 0, .int .i64 0, .int .i64 0, .int .i64 0, .int .i64 0, .int .i64 0, .int .i64 0, .int .i64 0, .int .i64 0, .int .i64 0, .int .i64 0, .int .i64 0, .int .i64 0, .int .i64 0, .int .i64 0, .int .i64 0, .int .i64 0, .int .i64 0, .int .i64 0, .int .i64 0, .int .i64 0, .int .i64 0, .int .i64 0, .int .i64 0, .int .i64 0, .int .i64 0, .int .i64 0, .int .i64 0, .int .i64 0, .int .i64 0, .int .i64 0, .int .i64 0, .int .i64 0, .int .i64 0, .int .i64 0, .int .i64 0, .int .i64 0, .int .i64 0, .int .i64 0, .int .i64 0, .int .i64 0, .int .i64 0, .int .i64 0, .int .i64 0, .int .i64 0, .int .i64 0, .int .i64 0, .int .i64 0, .int .i64 0, .int .i64 0, .int .i64 0, .int .i64 0, .int .i64 0, .int .i64 0, .int .i64 0, .int .i64 0, .int .i64 0, .int .i64 0, .int .i64 0, .int .i64 0, .int .i64 0, .int .i64 0, .int .i64 0, .int .i64 0, .int .i64 0, .int .i64 0, .int .i64 0, .int .i64 0, .int .i64 0, .int .i64 0, .int .i64 0, .int .i64 0, .int .i64 0, .int .i64 0, .int .i64 0, .int .i64 0, .int .i64 0, .int .i64 0, .int .i64 0, .int .i64 0, .int .i64 0, .int .i64 0, .int .i64 0, .int .i64 0, .int .i64 0, .int .i64 0, .int .i64 0, .int .i64 0, .int .i64 0, .int .i64 0, .int .i64 0, .int .i64 0, .int .i64 0, .int .i64 0, .int .i64 0, .int .i64 0, .int .i64 0, .int .i64 0, .int .i64 0, .int .i64 0, .int .i64 0, .int .i64 0, .int .i64 0, .int .i64 0, .int .i64 0, .int .i64 0, .int .i64 0, .int .i64 0, .int .i64 0, .int .i64 0, .int .i64 0, .int .i64 0, .int .i64 0, .int .i64 0, .int .i64 0, .int .i64 0, .int .i64 0, .int .i64 0, .int .i64 0, .int .i64 0, .int .i64 0, .int .i64 0, .int .i64 0, .int .i64 0, .int .i64 0, .int .i64 0, .int .i64 0, .int .i64 0, .int .i64 0, .int .i64 0, .int .i64 0, .int .i64 0, .int .i64 0, .int .i64 0, .int .i64 0, .int .i64 0, .int .i64 0, .int .i64 0, .int .i64 0, .int .i64 0, .int .i64 0, .int .i64 0, .int .i64 0, .int .i64 0, .int .i64 0, .int .i64 0, .int .i64 0, .int .i64 0, .int .i64 0, .int .i64 0, .int .i64 0, .int .i64 0, .int .i64 0, .int .i64 0, .int .i64 0, .int .i64 0, .int .i64 0, .int .i64 0, .int .i64 0, .int .i64 0, .int .i64 0, .int .i64 0, .int .i64 0, .int .i64 0] := by kernel_rfl
theorem zv104 : zeroVal Tryz.prog 104 = some (.agg #[.string ByteArray.empty, .int .i64 0]) := by kernel_rfl
theorem zv3 : zeroVal Tryz.prog 3 = some (.int .i64 0) := by kernel_rfl
theorem zv34 : zeroVal Tryz.prog 34 = some (.agg #[.int .i64 0, .int .i64 0, .int .i64 0, .string ByteArray.empty, .slice none 0 0]) := by kernel_rfl
theorem zv4 : zeroVal Tryz.prog 4 = some (.bool false) := by kernel_rfl
theorem zv5 : zeroVal Tryz.prog 5 = some (.int .u8 0) := by kernel_rfl
theorem zv75 : zeroVal Tryz.prog 75 = some (.pointer none) := by kernel_rfl
theorem zv89 : zeroVal Tryz.prog 89 = some (.agg #[.int .i64 0, .int .i64 0]) := by kernel_rfl
theorem zv9 : zeroVal Tryz.prog 9 = some (.string ByteArray.empty) := by kernel_rfl
end Go.Proofs.YtfkpjnomfmjplaaGreat
