/- The closed facts of this seat, by a program. -/
import Derived.Test.YtbpioemenmahaaaRows
import Derived.Test.YtbpioemenmahaaaMore
import Derived.Test.YtbpioemenmahaaaAbb
set_option linter.unusedVariables false
set_option linter.unusedSimpArgs false
set_option linter.unnecessarySimpa false
namespace Go.Proofs.Ytbpioemenmahaaa
open Go.Sym
theorem mixed : Try.prog.follows .mixedOrders = true := by kernel_rfl
theorem by102 : bytesT Try.prog 102 = some 40 := by kernel_rfl
theorem by23 : bytesT Try.prog 23 = some 32 := by kernel_rfl
theorem by27 : bytesT Try.prog 27 = some 56 := by kernel_rfl
theorem by3 : bytesT Try.prog 3 = some 8 := by kernel_rfl
theorem by41 : bytesT Try.prog 41 = some 16 := by kernel_rfl
theorem by57 : bytesT Try.prog 57 = some 24 := by kernel_rfl
theorem by65 : bytesT Try.prog 65 = some 6 := by kernel_rfl
theorem by94 : bytesT Try.prog 94 = some 16 := by kernel_rfl
theorem en100 : Enters Try.prog 100 := ⟨fun _ _ => by kernel_rfl⟩
theorem en101 : Enters Try.prog 101 := ⟨fun _ _ => by kernel_rfl⟩
theorem en12 : Enters Try.prog 12 := ⟨fun _ _ => by kernel_rfl⟩
theorem en13 : Enters Try.prog 13 := ⟨fun _ _ => by kernel_rfl⟩
theorem en14 : Enters Try.prog 14 := ⟨fun _ _ => by kernel_rfl⟩
theorem en15 : Enters Try.prog 15 := ⟨fun _ _ => by kernel_rfl⟩
theorem en16 : Enters Try.prog 16 := ⟨fun _ _ => by kernel_rfl⟩
theorem en17 : Enters Try.prog 17 := ⟨fun _ _ => by kernel_rfl⟩
theorem en18 : Enters Try.prog 18 := ⟨fun _ _ => by kernel_rfl⟩
theorem en19 : Enters Try.prog 19 := ⟨fun _ _ => by kernel_rfl⟩
theorem en20 : Enters Try.prog 20 := ⟨fun _ _ => by kernel_rfl⟩
theorem en21 : Enters Try.prog 21 := ⟨fun _ _ => by kernel_rfl⟩
theorem en22 : Enters Try.prog 22 := ⟨fun _ _ => by kernel_rfl⟩
theorem en23 : Enters Try.prog 23 := ⟨fun _ _ => by kernel_rfl⟩
theorem en24 : Enters Try.prog 24 := ⟨fun _ _ => by kernel_rfl⟩
theorem en25 : Enters Try.prog 25 := ⟨fun _ _ => by kernel_rfl⟩
theorem en26 : Enters Try.prog 26 := ⟨fun _ _ => by kernel_rfl⟩
theorem en27 : Enters Try.prog 27 := ⟨fun _ _ => by kernel_rfl⟩
theorem en28 : Enters Try.prog 28 := ⟨fun _ _ => by kernel_rfl⟩
theorem en29 : Enters Try.prog 29 := ⟨fun _ _ => by kernel_rfl⟩
theorem en30 : Enters Try.prog 30 := ⟨fun _ _ => by kernel_rfl⟩
theorem en31 : Enters Try.prog 31 := ⟨fun _ _ => by kernel_rfl⟩
theorem en32 : Enters Try.prog 32 := ⟨fun _ _ => by kernel_rfl⟩
theorem en33 : Enters Try.prog 33 := ⟨fun _ _ => by kernel_rfl⟩
theorem en34 : Enters Try.prog 34 := ⟨fun _ _ => by kernel_rfl⟩
theorem en35 : Enters Try.prog 35 := ⟨fun _ _ => by kernel_rfl⟩
theorem en36 : Enters Try.prog 36 := ⟨fun _ _ => by kernel_rfl⟩
theorem en37 : Enters Try.prog 37 := ⟨fun _ _ => by kernel_rfl⟩
theorem en38 : Enters Try.prog 38 := ⟨fun _ _ => by kernel_rfl⟩
theorem en39 : Enters Try.prog 39 := ⟨fun _ _ => by kernel_rfl⟩
theorem en40 : Enters Try.prog 40 := ⟨fun _ _ => by kernel_rfl⟩
theorem en41 : Enters Try.prog 41 := ⟨fun _ _ => by kernel_rfl⟩
theorem en42 : Enters Try.prog 42 := ⟨fun _ _ => by kernel_rfl⟩
theorem en43 : Enters Try.prog 43 := ⟨fun _ _ => by kernel_rfl⟩
theorem en44 : Enters Try.prog 44 := ⟨fun _ _ => by kernel_rfl⟩
theorem en45 : Enters Try.prog 45 := ⟨fun _ _ => by kernel_rfl⟩
theorem en46 : Enters Try.prog 46 := ⟨fun _ _ => by kernel_rfl⟩
theorem en47 : Enters Try.prog 47 := ⟨fun _ _ => by kernel_rfl⟩
theorem en48 : Enters Try.prog 48 := ⟨fun _ _ => by kernel_rfl⟩
theorem en49 : Enters Try.prog 49 := ⟨fun _ _ => by kernel_rfl⟩
theorem en50 : Enters Try.prog 50 := ⟨fun _ _ => by kernel_rfl⟩
theorem en51 : Enters Try.prog 51 := ⟨fun _ _ => by kernel_rfl⟩
theorem en52 : Enters Try.prog 52 := ⟨fun _ _ => by kernel_rfl⟩
theorem en53 : Enters Try.prog 53 := ⟨fun _ _ => by kernel_rfl⟩
theorem en54 : Enters Try.prog 54 := ⟨fun _ _ => by kernel_rfl⟩
theorem en55 : Enters Try.prog 55 := ⟨fun _ _ => by kernel_rfl⟩
theorem en56 : Enters Try.prog 56 := ⟨fun _ _ => by kernel_rfl⟩
theorem en57 : Enters Try.prog 57 := ⟨fun _ _ => by kernel_rfl⟩
theorem en58 : Enters Try.prog 58 := ⟨fun _ _ => by kernel_rfl⟩
theorem en59 : Enters Try.prog 59 := ⟨fun _ _ => by kernel_rfl⟩
theorem en60 : Enters Try.prog 60 := ⟨fun _ _ => by kernel_rfl⟩
theorem en61 : Enters Try.prog 61 := ⟨fun _ _ => by kernel_rfl⟩
theorem en63 : Enters Try.prog 63 := ⟨fun _ _ => by kernel_rfl⟩
theorem en64 : Enters Try.prog 64 := ⟨fun _ _ => by kernel_rfl⟩
theorem en65 : Enters Try.prog 65 := ⟨fun _ _ => by kernel_rfl⟩
theorem en66 : Enters Try.prog 66 := ⟨fun _ _ => by kernel_rfl⟩
theorem en67 : Enters Try.prog 67 := ⟨fun _ _ => by kernel_rfl⟩
theorem en68 : Enters Try.prog 68 := ⟨fun _ _ => by kernel_rfl⟩
theorem en69 : Enters Try.prog 69 := ⟨fun _ _ => by kernel_rfl⟩
theorem en70 : Enters Try.prog 70 := ⟨fun _ _ => by kernel_rfl⟩
theorem en71 : Enters Try.prog 71 := ⟨fun _ _ => by kernel_rfl⟩
theorem en72 : Enters Try.prog 72 := ⟨fun _ _ => by kernel_rfl⟩
theorem en73 : Enters Try.prog 73 := ⟨fun _ _ => by kernel_rfl⟩
theorem en74 : Enters Try.prog 74 := ⟨fun _ _ => by kernel_rfl⟩
theorem en75 : Enters Try.prog 75 := ⟨fun _ _ => by kernel_rfl⟩
theorem en76 : Enters Try.prog 76 := ⟨fun _ _ => by kernel_rfl⟩
theorem en77 : Enters Try.prog 77 := ⟨fun _ _ => by kernel_rfl⟩
theorem en78 : Enters Try.prog 78 := ⟨fun _ _ => by kernel_rfl⟩
theorem en79 : Enters Try.prog 79 := ⟨fun _ _ => by kernel_rfl⟩
theorem en80 : Enters Try.prog 80 := ⟨fun _ _ => by kernel_rfl⟩
theorem en81 : Enters Try.prog 81 := ⟨fun _ _ => by kernel_rfl⟩
theorem en82 : Enters Try.prog 82 := ⟨fun _ _ => by kernel_rfl⟩
theorem en83 : Enters Try.prog 83 := ⟨fun _ _ => by kernel_rfl⟩
theorem en84 : Enters Try.prog 84 := ⟨fun _ _ => by kernel_rfl⟩
theorem en85 : Enters Try.prog 85 := ⟨fun _ _ => by kernel_rfl⟩
theorem en86 : Enters Try.prog 86 := ⟨fun _ _ => by kernel_rfl⟩
theorem en87 : Enters Try.prog 87 := ⟨fun _ _ => by kernel_rfl⟩
theorem en88 : Enters Try.prog 88 := ⟨fun _ _ => by kernel_rfl⟩
theorem en89 : Enters Try.prog 89 := ⟨fun _ _ => by kernel_rfl⟩
theorem en90 : Enters Try.prog 90 := ⟨fun _ _ => by kernel_rfl⟩
theorem en91 : Enters Try.prog 91 := ⟨fun _ _ => by kernel_rfl⟩
theorem en92 : Enters Try.prog 92 := ⟨fun _ _ => by kernel_rfl⟩
theorem en93 : Enters Try.prog 93 := ⟨fun _ _ => by kernel_rfl⟩
theorem en94 : Enters Try.prog 94 := ⟨fun _ _ => by kernel_rfl⟩
theorem en95 : Enters Try.prog 95 := ⟨fun _ _ => by kernel_rfl⟩
theorem en96 : Enters Try.prog 96 := ⟨fun _ _ => by kernel_rfl⟩
theorem en97 : Enters Try.prog 97 := ⟨fun _ _ => by kernel_rfl⟩
theorem en98 : Enters Try.prog 98 := ⟨fun _ _ => by kernel_rfl⟩
theorem en99 : Enters Try.prog 99 := ⟨fun _ _ => by kernel_rfl⟩
theorem fo100_0 : fieldOff Try.prog 100 0 = some 0 := by kernel_rfl
theorem fo100_1 : fieldOff Try.prog 100 1 = some 1 := by kernel_rfl
theorem fo102_0 : fieldOff Try.prog 102 0 = some 0 := by kernel_rfl
theorem fo102_1 : fieldOff Try.prog 102 1 = some 1 := by kernel_rfl
theorem fo23_0 : fieldOff Try.prog 23 0 = some 0 := by kernel_rfl
theorem fo23_1 : fieldOff Try.prog 23 1 = some 1 := by kernel_rfl
theorem fo23_2 : fieldOff Try.prog 23 2 = some 2 := by kernel_rfl
theorem fo23_3 : fieldOff Try.prog 23 3 = some 3 := by kernel_rfl
theorem fo27_0 : fieldOff Try.prog 27 0 = some 0 := by kernel_rfl
theorem fo27_1 : fieldOff Try.prog 27 1 = some 1 := by kernel_rfl
theorem fo27_2 : fieldOff Try.prog 27 2 = some 2 := by kernel_rfl
theorem fo27_3 : fieldOff Try.prog 27 3 = some 6 := by kernel_rfl
theorem fo56_0 : fieldOff Try.prog 56 0 = some 0 := by kernel_rfl
theorem fo79_0 : fieldOff Try.prog 79 0 = some 0 := by kernel_rfl
theorem fo79_1 : fieldOff Try.prog 79 1 = some 1 := by kernel_rfl
theorem fo82_0 : fieldOff Try.prog 82 0 = some 0 := by kernel_rfl
theorem fo82_1 : fieldOff Try.prog 82 1 = some 1 := by kernel_rfl
theorem fo87_0 : fieldOff Try.prog 87 0 = some 0 := by kernel_rfl
theorem fo94_0 : fieldOff Try.prog 94 0 = some 0 := by kernel_rfl
theorem fo94_1 : fieldOff Try.prog 94 1 = some 1 := by kernel_rfl
theorem ft27_2 : fieldTy Try.prog 27 2 = some (2, true, 4) := by kernel_rfl
theorem pl100_0 : fieldPl Try.prog 100 0 = some (0, 1) := by kernel_rfl
theorem pl102_0 : fieldPl Try.prog 102 0 = some (0, 1) := by kernel_rfl
theorem pl102_1 : fieldPl Try.prog 102 1 = some (1, 4) := by kernel_rfl
theorem pl23_0 : fieldPl Try.prog 23 0 = some (0, 1) := by kernel_rfl
theorem pl23_1 : fieldPl Try.prog 23 1 = some (1, 1) := by kernel_rfl
theorem pl23_2 : fieldPl Try.prog 23 2 = some (2, 1) := by kernel_rfl
theorem pl23_3 : fieldPl Try.prog 23 3 = some (3, 1) := by kernel_rfl
theorem pl27_2 : fieldPl Try.prog 27 2 = some (2, 4) := by kernel_rfl
theorem pl79_0 : fieldPl Try.prog 79 0 = some (0, 1) := by kernel_rfl
theorem pl79_1 : fieldPl Try.prog 79 1 = some (1, 1) := by kernel_rfl
theorem pl82_0 : fieldPl Try.prog 82 0 = some (0, 1) := by kernel_rfl
theorem pl82_1 : fieldPl Try.prog 82 1 = some (1, 4) := by kernel_rfl
theorem pl87_0 : fieldPl Try.prog 87 0 = some (0, 1) := by kernel_rfl
theorem pl94_0 : fieldPl Try.prog 94 0 = some (0, 1) := by kernel_rfl
theorem pl94_1 : fieldPl Try.prog 94 1 = some (1, 1) := by kernel_rfl
theorem st100 : isStruct Try.prog 100 = true := by kernel_rfl
theorem st102 : isStruct Try.prog 102 = true := by kernel_rfl
theorem st23 : isStruct Try.prog 23 = true := by kernel_rfl
theorem st27 : isStruct Try.prog 27 = true := by kernel_rfl
theorem st56 : isStruct Try.prog 56 = true := by kernel_rfl
theorem st79 : isStruct Try.prog 79 = true := by kernel_rfl
theorem st82 : isStruct Try.prog 82 = true := by kernel_rfl
theorem st87 : isStruct Try.prog 87 = true := by kernel_rfl
theorem st94 : isStruct Try.prog 94 = true := by kernel_rfl
theorem ty1 : tyOf Try.prog 1 = some (false, 1) := by kernel_rfl
theorem ty10 : tyOf Try.prog 10 = some (false, 1) := by kernel_rfl
theorem ty100 : tyOf Try.prog 100 = some (true, 2) := by kernel_rfl
theorem ty101 : tyOf Try.prog 101 = some (true, 5) := by kernel_rfl
theorem ty102 : tyOf Try.prog 102 = some (true, 5) := by kernel_rfl
theorem ty103 : tyOf Try.prog 103 = some (false, 1) := by kernel_rfl
theorem ty104 : tyOf Try.prog 104 = some (false, 1) := by kernel_rfl
theorem ty105 : tyOf Try.prog 105 = some (false, 1) := by kernel_rfl
theorem ty106 : tyOf Try.prog 106 = some (false, 1) := by kernel_rfl
theorem ty108 : tyOf Try.prog 108 = some (false, 1) := by kernel_rfl
theorem ty109 : tyOf Try.prog 109 = some (false, 1) := by kernel_rfl
theorem ty11 : tyOf Try.prog 11 = some (false, 1) := by kernel_rfl
theorem ty110 : tyOf Try.prog 110 = some (false, 1) := by kernel_rfl
theorem ty111 : tyOf Try.prog 111 = some (false, 1) := by kernel_rfl
theorem ty112 : tyOf Try.prog 112 = some (false, 1) := by kernel_rfl
theorem ty113 : tyOf Try.prog 113 = some (false, 1) := by kernel_rfl
theorem ty114 : tyOf Try.prog 114 = some (false, 1) := by kernel_rfl
theorem ty115 : tyOf Try.prog 115 = some (false, 1) := by kernel_rfl
theorem ty116 : tyOf Try.prog 116 = some (false, 1) := by kernel_rfl
theorem ty117 : tyOf Try.prog 117 = some (false, 1) := by kernel_rfl
theorem ty118 : tyOf Try.prog 118 = some (false, 1) := by kernel_rfl
theorem ty12 : tyOf Try.prog 12 = some (false, 1) := by kernel_rfl
theorem ty120 : tyOf Try.prog 120 = some (false, 1) := by kernel_rfl
theorem ty121 : tyOf Try.prog 121 = some (false, 1) := by kernel_rfl
theorem ty122 : tyOf Try.prog 122 = some (false, 1) := by kernel_rfl
theorem ty124 : tyOf Try.prog 124 = some (false, 1) := by kernel_rfl
theorem ty125 : tyOf Try.prog 125 = some (false, 1) := by kernel_rfl
theorem ty126 : tyOf Try.prog 126 = some (false, 1) := by kernel_rfl
theorem ty127 : tyOf Try.prog 127 = some (false, 1) := by kernel_rfl
theorem ty128 : tyOf Try.prog 128 = some (false, 1) := by kernel_rfl
theorem ty129 : tyOf Try.prog 129 = some (false, 1) := by kernel_rfl
theorem ty13 : tyOf Try.prog 13 = some (true, 2) := by kernel_rfl
theorem ty130 : tyOf Try.prog 130 = some (false, 1) := by kernel_rfl
theorem ty131 : tyOf Try.prog 131 = some (false, 1) := by kernel_rfl
theorem ty132 : tyOf Try.prog 132 = some (false, 1) := by kernel_rfl
theorem ty133 : tyOf Try.prog 133 = some (false, 1) := by kernel_rfl
theorem ty134 : tyOf Try.prog 134 = some (false, 1) := by kernel_rfl
theorem ty135 : tyOf Try.prog 135 = some (false, 1) := by kernel_rfl
theorem ty136 : tyOf Try.prog 136 = some (false, 1) := by kernel_rfl
theorem ty137 : tyOf Try.prog 137 = some (false, 1) := by kernel_rfl
theorem ty138 : tyOf Try.prog 138 = some (false, 1) := by kernel_rfl
theorem ty139 : tyOf Try.prog 139 = some (false, 1) := by kernel_rfl
theorem ty14 : tyOf Try.prog 14 = some (true, 2) := by kernel_rfl
theorem ty141 : tyOf Try.prog 141 = some (false, 1) := by kernel_rfl
theorem ty142 : tyOf Try.prog 142 = some (false, 1) := by kernel_rfl
theorem ty143 : tyOf Try.prog 143 = some (true, 4) := by kernel_rfl
theorem ty144 : tyOf Try.prog 144 = some (true, 4) := by kernel_rfl
theorem ty148 : tyOf Try.prog 148 = some (false, 1) := by kernel_rfl
theorem ty149 : tyOf Try.prog 149 = some (false, 1) := by kernel_rfl
theorem ty15 : tyOf Try.prog 15 = some (false, 1) := by kernel_rfl
theorem ty150 : tyOf Try.prog 150 = some (false, 1) := by kernel_rfl
theorem ty151 : tyOf Try.prog 151 = some (false, 1) := by kernel_rfl
theorem ty152 : tyOf Try.prog 152 = some (false, 1) := by kernel_rfl
theorem ty153 : tyOf Try.prog 153 = some (false, 1) := by kernel_rfl
theorem ty154 : tyOf Try.prog 154 = some (true, 11) := by kernel_rfl
theorem ty155 : tyOf Try.prog 155 = some (true, 11) := by kernel_rfl
theorem ty156 : tyOf Try.prog 156 = some (false, 1) := by kernel_rfl
theorem ty16 : tyOf Try.prog 16 = some (false, 1) := by kernel_rfl
theorem ty17 : tyOf Try.prog 17 = some (false, 1) := by kernel_rfl
theorem ty18 : tyOf Try.prog 18 = some (true, 1) := by kernel_rfl
theorem ty19 : tyOf Try.prog 19 = some (true, 1) := by kernel_rfl
theorem ty2 : tyOf Try.prog 2 = some (false, 1) := by kernel_rfl
theorem ty20 : tyOf Try.prog 20 = some (false, 1) := by kernel_rfl
theorem ty21 : tyOf Try.prog 21 = some (false, 1) := by kernel_rfl
theorem ty22 : tyOf Try.prog 22 = some (true, 4) := by kernel_rfl
theorem ty23 : tyOf Try.prog 23 = some (true, 4) := by kernel_rfl
theorem ty24 : tyOf Try.prog 24 = some (false, 1) := by kernel_rfl
theorem ty25 : tyOf Try.prog 25 = some (true, 8) := by kernel_rfl
theorem ty26 : tyOf Try.prog 26 = some (true, 7) := by kernel_rfl
theorem ty27 : tyOf Try.prog 27 = some (true, 7) := by kernel_rfl
theorem ty28 : tyOf Try.prog 28 = some (false, 1) := by kernel_rfl
theorem ty29 : tyOf Try.prog 29 = some (true, 16) := by kernel_rfl
theorem ty3 : tyOf Try.prog 3 = some (false, 1) := by kernel_rfl
theorem ty30 : tyOf Try.prog 30 = some (false, 1) := by kernel_rfl
theorem ty31 : tyOf Try.prog 31 = some (false, 1) := by kernel_rfl
theorem ty32 : tyOf Try.prog 32 = some (false, 1) := by kernel_rfl
theorem ty33 : tyOf Try.prog 33 = some (false, 1) := by kernel_rfl
theorem ty34 : tyOf Try.prog 34 = some (false, 1) := by kernel_rfl
theorem ty35 : tyOf Try.prog 35 = some (false, 1) := by kernel_rfl
theorem ty36 : tyOf Try.prog 36 = some (false, 1) := by kernel_rfl
theorem ty37 : tyOf Try.prog 37 = some (false, 1) := by kernel_rfl
theorem ty38 : tyOf Try.prog 38 = some (false, 1) := by kernel_rfl
theorem ty39 : tyOf Try.prog 39 = some (false, 1) := by kernel_rfl
theorem ty4 : tyOf Try.prog 4 = some (false, 1) := by kernel_rfl
theorem ty40 : tyOf Try.prog 40 = some (false, 1) := by kernel_rfl
theorem ty41 : tyOf Try.prog 41 = some (true, 2) := by kernel_rfl
theorem ty42 : tyOf Try.prog 42 = some (false, 1) := by kernel_rfl
theorem ty43 : tyOf Try.prog 43 = some (false, 1) := by kernel_rfl
theorem ty44 : tyOf Try.prog 44 = some (false, 1) := by kernel_rfl
theorem ty45 : tyOf Try.prog 45 = some (false, 1) := by kernel_rfl
theorem ty46 : tyOf Try.prog 46 = some (false, 1) := by kernel_rfl
theorem ty47 : tyOf Try.prog 47 = some (false, 1) := by kernel_rfl
theorem ty48 : tyOf Try.prog 48 = some (false, 1) := by kernel_rfl
theorem ty49 : tyOf Try.prog 49 = some (false, 1) := by kernel_rfl
theorem ty5 : tyOf Try.prog 5 = some (false, 1) := by kernel_rfl
theorem ty50 : tyOf Try.prog 50 = some (false, 1) := by kernel_rfl
theorem ty51 : tyOf Try.prog 51 = some (false, 1) := by kernel_rfl
theorem ty52 : tyOf Try.prog 52 = some (false, 1) := by kernel_rfl
theorem ty53 : tyOf Try.prog 53 = some (false, 1) := by kernel_rfl
theorem ty54 : tyOf Try.prog 54 = some (false, 1) := by kernel_rfl
theorem ty55 : tyOf Try.prog 55 = some (true, 1) := by kernel_rfl
theorem ty56 : tyOf Try.prog 56 = some (true, 1) := by kernel_rfl
theorem ty57 : tyOf Try.prog 57 = some (true, 3) := by kernel_rfl
theorem ty58 : tyOf Try.prog 58 = some (false, 1) := by kernel_rfl
theorem ty59 : tyOf Try.prog 59 = some (false, 1) := by kernel_rfl
theorem ty6 : tyOf Try.prog 6 = some (false, 1) := by kernel_rfl
theorem ty60 : tyOf Try.prog 60 = some (false, 1) := by kernel_rfl
theorem ty61 : tyOf Try.prog 61 = some (false, 1) := by kernel_rfl
theorem ty62 : tyOf Try.prog 62 = some (false, 1) := by kernel_rfl
theorem ty63 : tyOf Try.prog 63 = some (false, 1) := by kernel_rfl
theorem ty64 : tyOf Try.prog 64 = some (false, 1) := by kernel_rfl
theorem ty65 : tyOf Try.prog 65 = some (true, 6) := by kernel_rfl
theorem ty66 : tyOf Try.prog 66 = some (false, 1) := by kernel_rfl
theorem ty67 : tyOf Try.prog 67 = some (false, 1) := by kernel_rfl
theorem ty68 : tyOf Try.prog 68 = some (false, 1) := by kernel_rfl
theorem ty69 : tyOf Try.prog 69 = some (false, 1) := by kernel_rfl
theorem ty7 : tyOf Try.prog 7 = some (true, 4) := by kernel_rfl
theorem ty70 : tyOf Try.prog 70 = some (false, 1) := by kernel_rfl
theorem ty71 : tyOf Try.prog 71 = some (false, 1) := by kernel_rfl
theorem ty72 : tyOf Try.prog 72 = some (false, 1) := by kernel_rfl
theorem ty73 : tyOf Try.prog 73 = some (false, 1) := by kernel_rfl
theorem ty74 : tyOf Try.prog 74 = some (false, 1) := by kernel_rfl
theorem ty75 : tyOf Try.prog 75 = some (false, 1) := by kernel_rfl
theorem ty76 : tyOf Try.prog 76 = some (false, 1) := by kernel_rfl
theorem ty77 : tyOf Try.prog 77 = some (false, 1) := by kernel_rfl
theorem ty78 : tyOf Try.prog 78 = some (true, 2) := by kernel_rfl
theorem ty79 : tyOf Try.prog 79 = some (true, 2) := by kernel_rfl
theorem ty8 : tyOf Try.prog 8 = some (true, 4) := by kernel_rfl
theorem ty80 : tyOf Try.prog 80 = some (false, 1) := by kernel_rfl
theorem ty81 : tyOf Try.prog 81 = some (true, 5) := by kernel_rfl
theorem ty82 : tyOf Try.prog 82 = some (true, 5) := by kernel_rfl
theorem ty83 : tyOf Try.prog 83 = some (false, 1) := by kernel_rfl
theorem ty84 : tyOf Try.prog 84 = some (false, 1) := by kernel_rfl
theorem ty85 : tyOf Try.prog 85 = some (false, 1) := by kernel_rfl
theorem ty86 : tyOf Try.prog 86 = some (true, 1) := by kernel_rfl
theorem ty87 : tyOf Try.prog 87 = some (true, 1) := by kernel_rfl
theorem ty88 : tyOf Try.prog 88 = some (false, 1) := by kernel_rfl
theorem ty89 : tyOf Try.prog 89 = some (false, 1) := by kernel_rfl
theorem ty9 : tyOf Try.prog 9 = some (false, 1) := by kernel_rfl
theorem ty90 : tyOf Try.prog 90 = some (false, 1) := by kernel_rfl
theorem ty91 : tyOf Try.prog 91 = some (false, 1) := by kernel_rfl
theorem ty92 : tyOf Try.prog 92 = some (false, 1) := by kernel_rfl
theorem ty93 : tyOf Try.prog 93 = some (true, 2) := by kernel_rfl
theorem ty94 : tyOf Try.prog 94 = some (true, 2) := by kernel_rfl
theorem ty95 : tyOf Try.prog 95 = some (false, 1) := by kernel_rfl
theorem ty96 : tyOf Try.prog 96 = some (false, 1) := by kernel_rfl
theorem ty97 : tyOf Try.prog 97 = some (false, 1) := by kernel_rfl
theorem ty98 : tyOf Try.prog 98 = some (false, 1) := by kernel_rfl
theorem ty99 : tyOf Try.prog 99 = some (true, 2) := by kernel_rfl
theorem zero100 : zeroOf Try.prog 100 = some [.int .i64 0, .slice none 0 0] := by kernel_rfl
theorem zero102 : zeroOf Try.prog 102 = some [.int .i64 0, .int .i64 0, .int .i64 0, .int .i64 0, .int .i64 0] := by kernel_rfl
theorem zero131 : zeroOf Try.prog 131 = some [.int .u64 0] := by kernel_rfl
theorem zero23 : zeroOf Try.prog 23 = some [.int .i64 0, .int .i64 0, .int .i64 0, .int .i64 0] := by kernel_rfl
theorem zero25 : zeroOf Try.prog 25 = some [.int .i64 0, .int .i64 0, .int .i64 0, .int .i64 0, .int .i64 0, .int .i64 0, .int .i64 0, .int .i64 0] := by kernel_rfl
theorem zero27 : zeroOf Try.prog 27 = some [.int .i64 0, .int .i64 0, .int .i64 0, .int .i64 0, .int .i64 0, .int .i64 0, .int .i64 0] := by kernel_rfl
theorem zero29 : zeroOf Try.prog 29 = some [.int .i64 0, .int .i64 0, .int .i64 0, .int .i64 0, .int .i64 0, .int .i64 0, .int .i64 0, .int .i64 0, .int .i64 0, .int .i64 0, .int .i64 0, .int .i64 0, .int .i64 0, .int .i64 0, .int .i64 0, .int .i64 0] := by kernel_rfl
theorem zero3 : zeroOf Try.prog 3 = some [.int .i64 0] := by kernel_rfl
theorem zero4 : zeroOf Try.prog 4 = some [.bool false] := by kernel_rfl
theorem zero41 : zeroOf Try.prog 41 = some [.int .i64 0, .int .i64 0] := by kernel_rfl
theorem zero56 : zeroOf Try.prog 56 = some [.slice none 0 0] := by kernel_rfl
theorem zero57 : zeroOf Try.prog 57 = some [.int .i64 0, .int .i64 0, .int .i64 0] := by kernel_rfl
theorem zero65 : zeroOf Try.prog 65 = some [.bool false, .bool false, .bool false, .bool false, .bool false, .bool false] := by kernel_rfl
theorem zero79 : zeroOf Try.prog 79 = some [.int .i64 0, .map none] := by kernel_rfl
theorem zero82 : zeroOf Try.prog 82 = some [.int .i64 0, .int .i64 0, .int .i64 0, .int .i64 0, .int .i64 0] := by kernel_rfl
theorem zero87 : zeroOf Try.prog 87 = some [.map none] := by kernel_rfl
theorem zero94 : zeroOf Try.prog 94 = some [.int .i64 0, .int .i64 0] := by kernel_rfl
theorem zv102 : zeroVal Try.prog 102 = some (.agg #[.int .i64 0, .int .i64 0, .int .i64 0, .int .i64 0, .int .i64 0]) := by kernel_rfl
theorem zv23 : zeroVal Try.prog 23 = some (.agg #[.int .i64 0, .int .i64 0, .int .i64 0, .int .i64 0]) := by kernel_rfl
theorem zv25 : zeroVal Try.prog 25 = some (.agg #[.int .i64 0, .int .i64 0, .int .i64 0, .int .i64 0, .int .i64 0, .int .i64 0, .int .i64 0, .int .i64 0]) := by kernel_rfl
theorem zv27 : zeroVal Try.prog 27 = some (.agg #[.int .i64 0, .int .i64 0, .int .i64 0, .int .i64 0, .int .i64 0, .int .i64 0, .int .i64 0]) := by kernel_rfl
theorem zv3 : zeroVal Try.prog 3 = some (.int .i64 0) := by kernel_rfl
theorem zv4 : zeroVal Try.prog 4 = some (.bool false) := by kernel_rfl
theorem zv41 : zeroVal Try.prog 41 = some (.agg #[.int .i64 0, .int .i64 0]) := by kernel_rfl
theorem zv57 : zeroVal Try.prog 57 = some (.agg #[.int .i64 0, .int .i64 0, .int .i64 0]) := by kernel_rfl
theorem zv65 : zeroVal Try.prog 65 = some (.agg #[.bool false, .bool false, .bool false, .bool false, .bool false, .bool false]) := by kernel_rfl
theorem zv94 : zeroVal Try.prog 94 = some (.agg #[.int .i64 0, .int .i64 0]) := by kernel_rfl
end Go.Proofs.Ytbpioemenmahaaa
