/- The closed facts of this seat, by a program. -/
import Derived.Test.YtomgkmoecbnddaaRows
import Derived.Test.YtomgkmoecbnddaaMore
namespace Go.Proofs.Ytomgkmoecbnddaa
open Go.Sym
theorem mixed : Try.prog.follows .mixedOrders = true := by kernel_rfl
theorem by3 : bytesT Try.prog 3 = some 8 := by kernel_rfl
theorem by37 : bytesT Try.prog 37 = some 3 := by kernel_rfl
theorem by50 : bytesT Try.prog 50 = some 4 := by kernel_rfl
theorem by69 : bytesT Try.prog 69 = some 8 := by kernel_rfl
theorem by79 : bytesT Try.prog 79 = some 24 := by kernel_rfl
theorem by85 : bytesT Try.prog 85 = some 64 := by kernel_rfl
theorem by87 : bytesT Try.prog 87 = some 24 := by kernel_rfl
theorem by92 : bytesT Try.prog 92 = some 16 := by kernel_rfl
theorem en10 : Enters Try.prog 10 := ⟨fun _ _ => by kernel_rfl⟩
theorem en11 : Enters Try.prog 11 := ⟨fun _ _ => by kernel_rfl⟩
theorem en12 : Enters Try.prog 12 := ⟨fun _ _ => by kernel_rfl⟩
theorem en13 : Enters Try.prog 13 := ⟨fun _ _ => by kernel_rfl⟩
theorem en14 : Enters Try.prog 14 := ⟨fun _ _ => by kernel_rfl⟩
theorem en15 : Enters Try.prog 15 := ⟨fun _ _ => by kernel_rfl⟩
theorem en16 : Enters Try.prog 16 := ⟨fun _ _ => by kernel_rfl⟩
theorem en17 : Enters Try.prog 17 := ⟨fun _ _ => by kernel_rfl⟩
theorem en18 : Enters Try.prog 18 := ⟨fun _ _ => by kernel_rfl⟩
theorem en19 : Enters Try.prog 19 := ⟨fun _ _ => by kernel_rfl⟩
theorem en20 : Enters Try.prog 20 := ⟨fun _ _ => by kernel_rfl⟩
theorem en21 : Enters Try.prog 21 := ⟨fun _ _ => by kernel_rfl⟩
theorem en22 : Enters Try.prog 22 := ⟨fun _ _ => by kernel_rfl⟩
theorem en23 : Enters Try.prog 23 := ⟨fun _ _ => by kernel_rfl⟩
theorem en24 : Enters Try.prog 24 := ⟨fun _ _ => by kernel_rfl⟩
theorem en25 : Enters Try.prog 25 := ⟨fun _ _ => by kernel_rfl⟩
theorem en26 : Enters Try.prog 26 := ⟨fun _ _ => by kernel_rfl⟩
theorem en27 : Enters Try.prog 27 := ⟨fun _ _ => by kernel_rfl⟩
theorem en28 : Enters Try.prog 28 := ⟨fun _ _ => by kernel_rfl⟩
theorem en29 : Enters Try.prog 29 := ⟨fun _ _ => by kernel_rfl⟩
theorem en30 : Enters Try.prog 30 := ⟨fun _ _ => by kernel_rfl⟩
theorem en31 : Enters Try.prog 31 := ⟨fun _ _ => by kernel_rfl⟩
theorem en32 : Enters Try.prog 32 := ⟨fun _ _ => by kernel_rfl⟩
theorem en33 : Enters Try.prog 33 := ⟨fun _ _ => by kernel_rfl⟩
theorem en34 : Enters Try.prog 34 := ⟨fun _ _ => by kernel_rfl⟩
theorem en35 : Enters Try.prog 35 := ⟨fun _ _ => by kernel_rfl⟩
theorem en36 : Enters Try.prog 36 := ⟨fun _ _ => by kernel_rfl⟩
theorem en37 : Enters Try.prog 37 := ⟨fun _ _ => by kernel_rfl⟩
theorem en38 : Enters Try.prog 38 := ⟨fun _ _ => by kernel_rfl⟩
theorem en39 : Enters Try.prog 39 := ⟨fun _ _ => by kernel_rfl⟩
theorem en40 : Enters Try.prog 40 := ⟨fun _ _ => by kernel_rfl⟩
theorem en41 : Enters Try.prog 41 := ⟨fun _ _ => by kernel_rfl⟩
theorem en42 : Enters Try.prog 42 := ⟨fun _ _ => by kernel_rfl⟩
theorem en43 : Enters Try.prog 43 := ⟨fun _ _ => by kernel_rfl⟩
theorem en44 : Enters Try.prog 44 := ⟨fun _ _ => by kernel_rfl⟩
theorem en45 : Enters Try.prog 45 := ⟨fun _ _ => by kernel_rfl⟩
theorem en46 : Enters Try.prog 46 := ⟨fun _ _ => by kernel_rfl⟩
theorem en47 : Enters Try.prog 47 := ⟨fun _ _ => by kernel_rfl⟩
theorem en48 : Enters Try.prog 48 := ⟨fun _ _ => by kernel_rfl⟩
theorem en49 : Enters Try.prog 49 := ⟨fun _ _ => by kernel_rfl⟩
theorem en50 : Enters Try.prog 50 := ⟨fun _ _ => by kernel_rfl⟩
theorem en51 : Enters Try.prog 51 := ⟨fun _ _ => by kernel_rfl⟩
theorem en52 : Enters Try.prog 52 := ⟨fun _ _ => by kernel_rfl⟩
theorem en53 : Enters Try.prog 53 := ⟨fun _ _ => by kernel_rfl⟩
theorem en54 : Enters Try.prog 54 := ⟨fun _ _ => by kernel_rfl⟩
theorem en55 : Enters Try.prog 55 := ⟨fun _ _ => by kernel_rfl⟩
theorem en56 : Enters Try.prog 56 := ⟨fun _ _ => by kernel_rfl⟩
theorem en57 : Enters Try.prog 57 := ⟨fun _ _ => by kernel_rfl⟩
theorem en58 : Enters Try.prog 58 := ⟨fun _ _ => by kernel_rfl⟩
theorem en59 : Enters Try.prog 59 := ⟨fun _ _ => by kernel_rfl⟩
theorem en60 : Enters Try.prog 60 := ⟨fun _ _ => by kernel_rfl⟩
theorem en61 : Enters Try.prog 61 := ⟨fun _ _ => by kernel_rfl⟩
theorem en62 : Enters Try.prog 62 := ⟨fun _ _ => by kernel_rfl⟩
theorem en63 : Enters Try.prog 63 := ⟨fun _ _ => by kernel_rfl⟩
theorem en64 : Enters Try.prog 64 := ⟨fun _ _ => by kernel_rfl⟩
theorem en65 : Enters Try.prog 65 := ⟨fun _ _ => by kernel_rfl⟩
theorem en66 : Enters Try.prog 66 := ⟨fun _ _ => by kernel_rfl⟩
theorem en67 : Enters Try.prog 67 := ⟨fun _ _ => by kernel_rfl⟩
theorem en68 : Enters Try.prog 68 := ⟨fun _ _ => by kernel_rfl⟩
theorem en69 : Enters Try.prog 69 := ⟨fun _ _ => by kernel_rfl⟩
theorem en70 : Enters Try.prog 70 := ⟨fun _ _ => by kernel_rfl⟩
theorem en71 : Enters Try.prog 71 := ⟨fun _ _ => by kernel_rfl⟩
theorem en72 : Enters Try.prog 72 := ⟨fun _ _ => by kernel_rfl⟩
theorem en73 : Enters Try.prog 73 := ⟨fun _ _ => by kernel_rfl⟩
theorem en74 : Enters Try.prog 74 := ⟨fun _ _ => by kernel_rfl⟩
theorem en75 : Enters Try.prog 75 := ⟨fun _ _ => by kernel_rfl⟩
theorem en76 : Enters Try.prog 76 := ⟨fun _ _ => by kernel_rfl⟩
theorem en77 : Enters Try.prog 77 := ⟨fun _ _ => by kernel_rfl⟩
theorem en78 : Enters Try.prog 78 := ⟨fun _ _ => by kernel_rfl⟩
theorem en9 : Enters Try.prog 9 := ⟨fun _ _ => by kernel_rfl⟩
theorem fo33_0 : fieldOff Try.prog 33 0 = some 0 := by kernel_rfl
theorem fo33_1 : fieldOff Try.prog 33 1 = some 6 := by kernel_rfl
theorem fo33_2 : fieldOff Try.prog 33 2 = some 7 := by kernel_rfl
theorem fo33_3 : fieldOff Try.prog 33 3 = some 16 := by kernel_rfl
theorem fo33_4 : fieldOff Try.prog 33 4 = some 70 := by kernel_rfl
theorem fo33_5 : fieldOff Try.prog 33 5 = some 79 := by kernel_rfl
theorem fo33_6 : fieldOff Try.prog 33 6 = some 88 := by kernel_rfl
theorem fo37_0 : fieldOff Try.prog 37 0 = some 0 := by kernel_rfl
theorem fo37_1 : fieldOff Try.prog 37 1 = some 1 := by kernel_rfl
theorem fo37_2 : fieldOff Try.prog 37 2 = some 2 := by kernel_rfl
theorem fo50_0 : fieldOff Try.prog 50 0 = some 0 := by kernel_rfl
theorem fo50_1 : fieldOff Try.prog 50 1 = some 1 := by kernel_rfl
theorem fo50_2 : fieldOff Try.prog 50 2 = some 2 := by kernel_rfl
theorem fo50_3 : fieldOff Try.prog 50 3 = some 3 := by kernel_rfl
theorem fo59_0 : fieldOff Try.prog 59 0 = some 0 := by kernel_rfl
theorem fo59_1 : fieldOff Try.prog 59 1 = some 1 := by kernel_rfl
theorem fo59_2 : fieldOff Try.prog 59 2 = some 2 := by kernel_rfl
theorem fo66_0 : fieldOff Try.prog 66 0 = some 0 := by kernel_rfl
theorem fo66_1 : fieldOff Try.prog 66 1 = some 1 := by kernel_rfl
theorem fo66_2 : fieldOff Try.prog 66 2 = some 2 := by kernel_rfl
theorem fo66_3 : fieldOff Try.prog 66 3 = some 3 := by kernel_rfl
theorem fo72_0 : fieldOff Try.prog 72 0 = some 0 := by kernel_rfl
theorem fo72_1 : fieldOff Try.prog 72 1 = some 1 := by kernel_rfl
theorem fo72_10 : fieldOff Try.prog 72 10 = some 10 := by kernel_rfl
theorem fo72_2 : fieldOff Try.prog 72 2 = some 2 := by kernel_rfl
theorem fo72_3 : fieldOff Try.prog 72 3 = some 3 := by kernel_rfl
theorem fo72_4 : fieldOff Try.prog 72 4 = some 4 := by kernel_rfl
theorem fo72_5 : fieldOff Try.prog 72 5 = some 5 := by kernel_rfl
theorem fo72_6 : fieldOff Try.prog 72 6 = some 6 := by kernel_rfl
theorem fo72_7 : fieldOff Try.prog 72 7 = some 7 := by kernel_rfl
theorem fo72_8 : fieldOff Try.prog 72 8 = some 8 := by kernel_rfl
theorem fo72_9 : fieldOff Try.prog 72 9 = some 9 := by kernel_rfl
theorem fo79_0 : fieldOff Try.prog 79 0 = some 0 := by kernel_rfl
theorem fo79_1 : fieldOff Try.prog 79 1 = some 1 := by kernel_rfl
theorem fo79_2 : fieldOff Try.prog 79 2 = some 2 := by kernel_rfl
theorem fo85_0 : fieldOff Try.prog 85 0 = some 0 := by kernel_rfl
theorem fo85_1 : fieldOff Try.prog 85 1 = some 1 := by kernel_rfl
theorem fo85_2 : fieldOff Try.prog 85 2 = some 2 := by kernel_rfl
theorem fo85_3 : fieldOff Try.prog 85 3 = some 3 := by kernel_rfl
theorem fo85_4 : fieldOff Try.prog 85 4 = some 4 := by kernel_rfl
theorem fo85_5 : fieldOff Try.prog 85 5 = some 5 := by kernel_rfl
theorem fo85_6 : fieldOff Try.prog 85 6 = some 6 := by kernel_rfl
theorem fo92_0 : fieldOff Try.prog 92 0 = some 0 := by kernel_rfl
theorem fo92_1 : fieldOff Try.prog 92 1 = some 1 := by kernel_rfl
theorem pl37_0 : fieldPl Try.prog 37 0 = some (0, 1) := by kernel_rfl
theorem pl37_1 : fieldPl Try.prog 37 1 = some (1, 1) := by kernel_rfl
theorem pl66_0 : fieldPl Try.prog 66 0 = some (0, 1) := by kernel_rfl
theorem pl72_0 : fieldPl Try.prog 72 0 = some (0, 1) := by kernel_rfl
theorem pl72_1 : fieldPl Try.prog 72 1 = some (1, 1) := by kernel_rfl
theorem pl72_4 : fieldPl Try.prog 72 4 = some (4, 1) := by kernel_rfl
theorem pl72_6 : fieldPl Try.prog 72 6 = some (6, 1) := by kernel_rfl
theorem pl72_7 : fieldPl Try.prog 72 7 = some (7, 1) := by kernel_rfl
theorem pl72_9 : fieldPl Try.prog 72 9 = some (9, 1) := by kernel_rfl
theorem pl79_0 : fieldPl Try.prog 79 0 = some (0, 1) := by kernel_rfl
theorem pl79_1 : fieldPl Try.prog 79 1 = some (1, 1) := by kernel_rfl
theorem pl79_2 : fieldPl Try.prog 79 2 = some (2, 1) := by kernel_rfl
theorem pl85_0 : fieldPl Try.prog 85 0 = some (0, 1) := by kernel_rfl
theorem pl85_1 : fieldPl Try.prog 85 1 = some (1, 1) := by kernel_rfl
theorem pl85_2 : fieldPl Try.prog 85 2 = some (2, 1) := by kernel_rfl
theorem pl85_4 : fieldPl Try.prog 85 4 = some (4, 1) := by kernel_rfl
theorem pl92_0 : fieldPl Try.prog 92 0 = some (0, 1) := by kernel_rfl
theorem pl92_1 : fieldPl Try.prog 92 1 = some (1, 1) := by kernel_rfl
theorem st33 : isStruct Try.prog 33 = true := by kernel_rfl
theorem st37 : isStruct Try.prog 37 = true := by kernel_rfl
theorem st59 : isStruct Try.prog 59 = true := by kernel_rfl
theorem st66 : isStruct Try.prog 66 = true := by kernel_rfl
theorem st72 : isStruct Try.prog 72 = true := by kernel_rfl
theorem st79 : isStruct Try.prog 79 = true := by kernel_rfl
theorem st85 : isStruct Try.prog 85 = true := by kernel_rfl
theorem st92 : isStruct Try.prog 92 = true := by kernel_rfl
theorem ty1 : tyOf Try.prog 1 = some (false, 1) := by kernel_rfl
theorem ty10 : tyOf Try.prog 10 = some (false, 1) := by kernel_rfl
theorem ty101 : tyOf Try.prog 101 = some (false, 1) := by kernel_rfl
theorem ty102 : tyOf Try.prog 102 = some (false, 1) := by kernel_rfl
theorem ty103 : tyOf Try.prog 103 = some (false, 1) := by kernel_rfl
theorem ty105 : tyOf Try.prog 105 = some (false, 1) := by kernel_rfl
theorem ty106 : tyOf Try.prog 106 = some (false, 1) := by kernel_rfl
theorem ty107 : tyOf Try.prog 107 = some (false, 1) := by kernel_rfl
theorem ty108 : tyOf Try.prog 108 = some (false, 1) := by kernel_rfl
theorem ty109 : tyOf Try.prog 109 = some (false, 1) := by kernel_rfl
theorem ty11 : tyOf Try.prog 11 = some (false, 1) := by kernel_rfl
theorem ty110 : tyOf Try.prog 110 = some (false, 1) := by kernel_rfl
theorem ty111 : tyOf Try.prog 111 = some (false, 1) := by kernel_rfl
theorem ty112 : tyOf Try.prog 112 = some (false, 1) := by kernel_rfl
theorem ty113 : tyOf Try.prog 113 = some (false, 1) := by kernel_rfl
theorem ty114 : tyOf Try.prog 114 = some (false, 1) := by kernel_rfl
theorem ty115 : tyOf Try.prog 115 = some (false, 1) := by kernel_rfl
theorem ty116 : tyOf Try.prog 116 = some (false, 1) := by kernel_rfl
theorem ty117 : tyOf Try.prog 117 = some (false, 1) := by kernel_rfl
theorem ty118 : tyOf Try.prog 118 = some (false, 1) := by kernel_rfl
theorem ty119 : tyOf Try.prog 119 = some (false, 1) := by kernel_rfl
theorem ty12 : tyOf Try.prog 12 = some (false, 1) := by kernel_rfl
theorem ty121 : tyOf Try.prog 121 = some (false, 1) := by kernel_rfl
theorem ty122 : tyOf Try.prog 122 = some (false, 1) := by kernel_rfl
theorem ty123 : tyOf Try.prog 123 = some (true, 4) := by kernel_rfl
theorem ty124 : tyOf Try.prog 124 = some (true, 4) := by kernel_rfl
theorem ty128 : tyOf Try.prog 128 = some (false, 1) := by kernel_rfl
theorem ty129 : tyOf Try.prog 129 = some (false, 1) := by kernel_rfl
theorem ty13 : tyOf Try.prog 13 = some (true, 2) := by kernel_rfl
theorem ty130 : tyOf Try.prog 130 = some (false, 1) := by kernel_rfl
theorem ty131 : tyOf Try.prog 131 = some (false, 1) := by kernel_rfl
theorem ty132 : tyOf Try.prog 132 = some (false, 1) := by kernel_rfl
theorem ty133 : tyOf Try.prog 133 = some (false, 1) := by kernel_rfl
theorem ty134 : tyOf Try.prog 134 = some (true, 11) := by kernel_rfl
theorem ty135 : tyOf Try.prog 135 = some (true, 11) := by kernel_rfl
theorem ty136 : tyOf Try.prog 136 = some (false, 1) := by kernel_rfl
theorem ty137 : tyOf Try.prog 137 = some (false, 1) := by kernel_rfl
theorem ty138 : tyOf Try.prog 138 = some (true, 81) := by kernel_rfl
theorem ty14 : tyOf Try.prog 14 = some (true, 2) := by kernel_rfl
theorem ty15 : tyOf Try.prog 15 = some (false, 1) := by kernel_rfl
theorem ty16 : tyOf Try.prog 16 = some (false, 1) := by kernel_rfl
theorem ty17 : tyOf Try.prog 17 = some (false, 1) := by kernel_rfl
theorem ty18 : tyOf Try.prog 18 = some (true, 1) := by kernel_rfl
theorem ty19 : tyOf Try.prog 19 = some (true, 1) := by kernel_rfl
theorem ty2 : tyOf Try.prog 2 = some (false, 1) := by kernel_rfl
theorem ty20 : tyOf Try.prog 20 = some (false, 1) := by kernel_rfl
theorem ty21 : tyOf Try.prog 21 = some (false, 1) := by kernel_rfl
theorem ty22 : tyOf Try.prog 22 = some (false, 1) := by kernel_rfl
theorem ty23 : tyOf Try.prog 23 = some (false, 1) := by kernel_rfl
theorem ty24 : tyOf Try.prog 24 = some (false, 1) := by kernel_rfl
theorem ty25 : tyOf Try.prog 25 = some (false, 1) := by kernel_rfl
theorem ty26 : tyOf Try.prog 26 = some (true, 6) := by kernel_rfl
theorem ty27 : tyOf Try.prog 27 = some (false, 1) := by kernel_rfl
theorem ty28 : tyOf Try.prog 28 = some (true, 9) := by kernel_rfl
theorem ty29 : tyOf Try.prog 29 = some (true, 6) := by kernel_rfl
theorem ty3 : tyOf Try.prog 3 = some (false, 1) := by kernel_rfl
theorem ty30 : tyOf Try.prog 30 = some (true, 54) := by kernel_rfl
theorem ty31 : tyOf Try.prog 31 = some (true, 9) := by kernel_rfl
theorem ty32 : tyOf Try.prog 32 = some (true, 89) := by kernel_rfl
theorem ty33 : tyOf Try.prog 33 = some (true, 89) := by kernel_rfl
theorem ty34 : tyOf Try.prog 34 = some (false, 1) := by kernel_rfl
theorem ty35 : tyOf Try.prog 35 = some (false, 1) := by kernel_rfl
theorem ty36 : tyOf Try.prog 36 = some (true, 3) := by kernel_rfl
theorem ty37 : tyOf Try.prog 37 = some (true, 3) := by kernel_rfl
theorem ty38 : tyOf Try.prog 38 = some (false, 1) := by kernel_rfl
theorem ty39 : tyOf Try.prog 39 = some (false, 1) := by kernel_rfl
theorem ty4 : tyOf Try.prog 4 = some (false, 1) := by kernel_rfl
theorem ty40 : tyOf Try.prog 40 = some (false, 1) := by kernel_rfl
theorem ty41 : tyOf Try.prog 41 = some (false, 1) := by kernel_rfl
theorem ty42 : tyOf Try.prog 42 = some (false, 1) := by kernel_rfl
theorem ty43 : tyOf Try.prog 43 = some (false, 1) := by kernel_rfl
theorem ty44 : tyOf Try.prog 44 = some (false, 1) := by kernel_rfl
theorem ty45 : tyOf Try.prog 45 = some (true, 11) := by kernel_rfl
theorem ty46 : tyOf Try.prog 46 = some (false, 1) := by kernel_rfl
theorem ty47 : tyOf Try.prog 47 = some (false, 1) := by kernel_rfl
theorem ty48 : tyOf Try.prog 48 = some (true, 13) := by kernel_rfl
theorem ty49 : tyOf Try.prog 49 = some (true, 4) := by kernel_rfl
theorem ty5 : tyOf Try.prog 5 = some (false, 1) := by kernel_rfl
theorem ty50 : tyOf Try.prog 50 = some (true, 4) := by kernel_rfl
theorem ty51 : tyOf Try.prog 51 = some (false, 1) := by kernel_rfl
theorem ty52 : tyOf Try.prog 52 = some (false, 1) := by kernel_rfl
theorem ty54 : tyOf Try.prog 54 = some (false, 1) := by kernel_rfl
theorem ty55 : tyOf Try.prog 55 = some (false, 1) := by kernel_rfl
theorem ty56 : tyOf Try.prog 56 = some (false, 1) := by kernel_rfl
theorem ty57 : tyOf Try.prog 57 = some (false, 1) := by kernel_rfl
theorem ty58 : tyOf Try.prog 58 = some (true, 3) := by kernel_rfl
theorem ty59 : tyOf Try.prog 59 = some (true, 3) := by kernel_rfl
theorem ty6 : tyOf Try.prog 6 = some (false, 1) := by kernel_rfl
theorem ty60 : tyOf Try.prog 60 = some (false, 1) := by kernel_rfl
theorem ty61 : tyOf Try.prog 61 = some (false, 1) := by kernel_rfl
theorem ty62 : tyOf Try.prog 62 = some (false, 1) := by kernel_rfl
theorem ty63 : tyOf Try.prog 63 = some (false, 1) := by kernel_rfl
theorem ty64 : tyOf Try.prog 64 = some (false, 1) := by kernel_rfl
theorem ty65 : tyOf Try.prog 65 = some (true, 4) := by kernel_rfl
theorem ty66 : tyOf Try.prog 66 = some (true, 4) := by kernel_rfl
theorem ty67 : tyOf Try.prog 67 = some (false, 1) := by kernel_rfl
theorem ty68 : tyOf Try.prog 68 = some (false, 1) := by kernel_rfl
theorem ty69 : tyOf Try.prog 69 = some (false, 1) := by kernel_rfl
theorem ty7 : tyOf Try.prog 7 = some (true, 4) := by kernel_rfl
theorem ty70 : tyOf Try.prog 70 = some (false, 1) := by kernel_rfl
theorem ty71 : tyOf Try.prog 71 = some (true, 11) := by kernel_rfl
theorem ty72 : tyOf Try.prog 72 = some (true, 11) := by kernel_rfl
theorem ty73 : tyOf Try.prog 73 = some (false, 1) := by kernel_rfl
theorem ty74 : tyOf Try.prog 74 = some (false, 1) := by kernel_rfl
theorem ty75 : tyOf Try.prog 75 = some (false, 1) := by kernel_rfl
theorem ty76 : tyOf Try.prog 76 = some (false, 1) := by kernel_rfl
theorem ty77 : tyOf Try.prog 77 = some (false, 1) := by kernel_rfl
theorem ty78 : tyOf Try.prog 78 = some (true, 3) := by kernel_rfl
theorem ty79 : tyOf Try.prog 79 = some (true, 3) := by kernel_rfl
theorem ty8 : tyOf Try.prog 8 = some (true, 4) := by kernel_rfl
theorem ty80 : tyOf Try.prog 80 = some (false, 1) := by kernel_rfl
theorem ty81 : tyOf Try.prog 81 = some (false, 1) := by kernel_rfl
theorem ty82 : tyOf Try.prog 82 = some (false, 1) := by kernel_rfl
theorem ty83 : tyOf Try.prog 83 = some (false, 1) := by kernel_rfl
theorem ty84 : tyOf Try.prog 84 = some (true, 7) := by kernel_rfl
theorem ty85 : tyOf Try.prog 85 = some (true, 7) := by kernel_rfl
theorem ty86 : tyOf Try.prog 86 = some (false, 1) := by kernel_rfl
theorem ty87 : tyOf Try.prog 87 = some (true, 3) := by kernel_rfl
theorem ty88 : tyOf Try.prog 88 = some (false, 1) := by kernel_rfl
theorem ty89 : tyOf Try.prog 89 = some (false, 1) := by kernel_rfl
theorem ty9 : tyOf Try.prog 9 = some (false, 1) := by kernel_rfl
theorem ty90 : tyOf Try.prog 90 = some (false, 1) := by kernel_rfl
theorem ty91 : tyOf Try.prog 91 = some (true, 2) := by kernel_rfl
theorem ty92 : tyOf Try.prog 92 = some (true, 2) := by kernel_rfl
theorem ty93 : tyOf Try.prog 93 = some (false, 1) := by kernel_rfl
theorem ty94 : tyOf Try.prog 94 = some (false, 1) := by kernel_rfl
theorem ty95 : tyOf Try.prog 95 = some (false, 1) := by kernel_rfl
theorem ty96 : tyOf Try.prog 96 = some (false, 1) := by kernel_rfl
theorem ty97 : tyOf Try.prog 97 = some (false, 1) := by kernel_rfl
theorem ty98 : tyOf Try.prog 98 = some (false, 1) := by kernel_rfl
theorem ty99 : tyOf Try.prog 99 = some (false, 1) := by kernel_rfl
theorem zero113 : zeroOf Try.prog 113 = some [.int .u64 0] := by kernel_rfl
theorem zero25 : zeroOf Try.prog 25 = some [.slice none 0 0] := by kernel_rfl
theorem zero29 : zeroOf Try.prog 29 = some [.bool false, .bool false, .bool false, .bool false, .bool false, .bool false] := by kernel_rfl
theorem zero3 : zeroOf Try.prog 3 = some [.int .i64 0] := by kernel_rfl
theorem zero33 : zeroOf Try.prog 33 = some [.slice none 0 0, .slice none 0 0, .slice none 0 0, .slice none 0 0, .slice none 0 0, .slice none 0 0, .slice none 0 0, .int .i64 0, .int .i64 0, .int .i64 0, .int .i64 0, .int .i64 0, .int .i64 0, .int .i64 0, .int .i64 0, .int .i64 0, .bool false, .bool false, .bool false, .bool false, .bool false, .bool false, .bool false, .bool false, .bool false, .bool false, .bool false, .bool false, .bool false, .bool false, .bool false, .bool false, .bool false, .bool false, .bool false, .bool false, .bool false, .bool false, .bool false, .bool false, .bool false, .bool false, .bool false, .bool false, .bool false, .bool false, .bool false, .bool false, .bool false, .bool false, .bool false, .bool false, .bool false, .bool false, .bool false, .bool false, .bool false, .bool false, .bool false, .bool false, .bool false, .bool false, .bool false, .bool false, .bool false, .bool false, .bool false, .bool false, .bool false, .bool false, .int .i64 0, .int .i64 0, .int .i64 0, .int .i64 0, .int .i64 0, .int .i64 0, .int .i64 0, .int .i64 0, .int .i64 0, .bool false, .bool false, .bool false, .bool false, .bool false, .bool false, .bool false, .bool false, .bool false, .slice none 0 0] := by kernel_rfl
theorem zero37 : zeroOf Try.prog 37 = some [.int .u8 0, .int .u8 0, .int .u8 0] := by kernel_rfl
theorem zero4 : zeroOf Try.prog 4 = some [.bool false] := by kernel_rfl
theorem zero45 : zeroOf Try.prog 45 = some [.bool false, .bool false, .bool false, .bool false, .bool false, .bool false, .bool false, .bool false, .bool false, .bool false, .bool false] := by kernel_rfl
theorem zero48 : zeroOf Try.prog 48 = some [.bool false, .bool false, .bool false, .bool false, .bool false, .bool false, .bool false, .bool false, .bool false, .bool false, .bool false, .bool false, .bool false] := by kernel_rfl
theorem zero50 : zeroOf Try.prog 50 = some [.int .u8 0, .int .u8 0, .int .u8 0, .int .u8 0] := by kernel_rfl
theorem zero59 : zeroOf Try.prog 59 = some [.slice none 0 0, .slice none 0 0, .int .i64 0] := by kernel_rfl
theorem zero66 : zeroOf Try.prog 66 = some [.int .i64 0, .int .i64 0, .map none, .map none] := by kernel_rfl
theorem zero69 : zeroOf Try.prog 69 = some [.pointer none] := by kernel_rfl
theorem zero72 : zeroOf Try.prog 72 = some [.int .i64 0, .int .i64 0, .int .i64 0, .int .i64 0, .bool false, .bool false, .map none, .map none, .int .i64 0, .int .i64 0, .slice none 0 0] := by kernel_rfl
theorem zero79 : zeroOf Try.prog 79 = some [.pointer none, .pointer none, .pointer none] := by kernel_rfl
theorem zero85 : zeroOf Try.prog 85 = some [.int .i64 0, .int .i64 0, .int .i64 0, .int .i64 0, .bool false, .bool false, .slice none 0 0] := by kernel_rfl
theorem zero87 : zeroOf Try.prog 87 = some [.int .i64 0, .int .i64 0, .int .i64 0] := by kernel_rfl
theorem zero92 : zeroOf Try.prog 92 = some [.int .i64 0, .int .i64 0] := by kernel_rfl
theorem zv25 : zeroVal Try.prog 25 = some (.slice none 0 0) := by kernel_rfl
theorem zv29 : zeroVal Try.prog 29 = some (.agg #[.bool false, .bool false, .bool false, .bool false, .bool false, .bool false]) := by kernel_rfl
theorem zv3 : zeroVal Try.prog 3 = some (.int .i64 0) := by kernel_rfl
theorem zv37 : zeroVal Try.prog 37 = some (.agg #[.int .u8 0, .int .u8 0, .int .u8 0]) := by kernel_rfl
theorem zv4 : zeroVal Try.prog 4 = some (.bool false) := by kernel_rfl
theorem zv50 : zeroVal Try.prog 50 = some (.agg #[.int .u8 0, .int .u8 0, .int .u8 0, .int .u8 0]) := by kernel_rfl
theorem zv69 : zeroVal Try.prog 69 = some (.pointer none) := by kernel_rfl
theorem zv79 : zeroVal Try.prog 79 = some (.agg #[.pointer none, .pointer none, .pointer none]) := by kernel_rfl
theorem zv85 : zeroVal Try.prog 85 = some (.agg #[.int .i64 0, .int .i64 0, .int .i64 0, .int .i64 0, .bool false, .bool false, .slice none 0 0]) := by kernel_rfl
theorem zv87 : zeroVal Try.prog 87 = some (.agg #[.int .i64 0, .int .i64 0, .int .i64 0]) := by kernel_rfl
theorem zv92 : zeroVal Try.prog 92 = some (.agg #[.int .i64 0, .int .i64 0]) := by kernel_rfl
end Go.Proofs.Ytomgkmoecbnddaa
