/- The compiled functions of this seat, in named pieces, each with the proof that it is what the compiler gives of the model's code. -/
import Derived.Test.YtbepjnjfnmmpaaaAmS
import Derived.Test.YtbepjnjfnmmpaaaRows
set_option linter.unusedSimpArgs false
set_option linter.unusedVariables false
namespace Go.Proofs.Ytbepjnjfnmmpaaa
open Go.AM
set_option maxRecDepth 100000
theorem mixed : Try.prog.follows .mixedOrders = true := by kernel_rfl
/- estovers/estoverslaw21.GrantShorts -/
/- estovers/estoverslaw21.GrantServes -/
abbrev A4r1 : List AIns := [⟨(some 5), (.box (.tmp 2)), none⟩, ⟨(some 6), (.mv (.cst (.bool false))), none⟩]
abbrev A4r2 : List AIns := [⟨(some 13), (.call (.fnc 11) []), none⟩, ⟨(some 14), (.un .not (.tmp 13)), none⟩, ⟨(some 15), (.mv (.tmp 14)), none⟩, ⟨(some 16), (.mv (.tmp 0)), (some (15, false))⟩, ⟨(some 17), (.mv (.tmp 1)), (some (15, false))⟩, ⟨(some 18), (.call (.fnc 16) [(.tmp 16), (.tmp 17)]), (some (15, false))⟩, ⟨(some 19), (.un .not (.tmp 18)), (some (15, false))⟩, ⟨(some 20), (.pick (.tmp 15) (.cst (.bool true)) (.tmp 19)), none⟩]
abbrev A4r3 : List AIns := [⟨(some 21), (.call (.fnc 11) []), none⟩, ⟨(some 6), (.mv (.tmp 21)), none⟩]
abbrev A4r4 : List AIns := [⟨(some 23), (.mv (.tmp 0)), none⟩, ⟨(some 24), (.mv (.tmp 1)), none⟩, ⟨(some 25), (.iaddrA 2 1 (.tmp 5) (.cst (.int .i64 0))), none⟩, ⟨(some 26), (.load false 1 (.tmp 25)), none⟩, ⟨(some 27), (.iaddrA 2 1 (.tmp 5) (.cst (.int .i64 1))), none⟩, ⟨(some 28), (.load false 1 (.tmp 27)), none⟩, ⟨(some 29), (.call (.fnc 17) [(.tmp 23), (.tmp 24), (.tmp 26), (.tmp 28)]), none⟩, ⟨(some 22), (.mv (.tmp 29)), none⟩, ⟨(some 30), (.extract 0 (.tmp 22)), none⟩, ⟨(some 31), (.extract 1 (.tmp 22)), none⟩, ⟨(some 32), (.extract 2 (.tmp 22)), none⟩, ⟨(some 7), (.mv (.tmp 30)), none⟩, ⟨(some 8), (.mv (.tmp 31)), none⟩, ⟨(some 9), (.mv (.tmp 32)), none⟩]
abbrev A4r5 : List AIns := [⟨(some 34), (.mv (.tmp 0)), none⟩, ⟨(some 35), (.mv (.tmp 1)), none⟩, ⟨(some 36), (.iaddrA 2 1 (.tmp 5) (.cst (.int .i64 0))), none⟩, ⟨(some 37), (.load false 1 (.tmp 36)), none⟩, ⟨(some 38), (.iaddrA 2 1 (.tmp 5) (.cst (.int .i64 1))), none⟩, ⟨(some 39), (.load false 1 (.tmp 38)), none⟩, ⟨(some 40), (.call (.fnc 18) [(.tmp 34), (.tmp 35), (.tmp 37), (.tmp 39)]), none⟩, ⟨(some 33), (.mv (.tmp 40)), none⟩, ⟨(some 41), (.extract 0 (.tmp 33)), none⟩, ⟨(some 42), (.extract 1 (.tmp 33)), none⟩, ⟨(some 43), (.extract 2 (.tmp 33)), none⟩, ⟨(some 10), (.mv (.tmp 41)), none⟩, ⟨(some 11), (.mv (.tmp 42)), none⟩, ⟨(some 12), (.mv (.tmp 43)), none⟩]
abbrev A4r6 : List AIns := [⟨(some 44), (.mv (.tmp 7)), none⟩, ⟨(some 45), (.mv (.tmp 10)), none⟩, ⟨(some 46), (.bin .eql (.tmp 44) (.tmp 45)), none⟩, ⟨(some 47), (.mv (.tmp 46)), none⟩, ⟨(some 48), (.mv (.tmp 9)), (some (47, true))⟩, ⟨(some 49), (.mv (.tmp 12)), (some (47, true))⟩, ⟨(some 50), (.bin .eql (.tmp 48) (.tmp 49)), (some (47, true))⟩, ⟨(some 51), (.pick (.tmp 47) (.tmp 50) (.cst (.bool false))), none⟩, ⟨(some 52), (.mv (.tmp 51)), none⟩, ⟨(some 53), (.mv (.tmp 8)), (some (52, true))⟩, ⟨(some 54), (.mv (.tmp 11)), (some (52, true))⟩, ⟨(some 55), (.call (.fnc 19) [(.tmp 53), (.tmp 54)]), (some (52, true))⟩, ⟨(some 56), (.pick (.tmp 52) (.tmp 55) (.cst (.bool false))), none⟩, ⟨(some 6), (.mv (.tmp 56)), none⟩]
def A4 : AFun := ⟨57, 3, [(.tmp 6)], (.seq (.reg A4r1 [0, 1, 5]) (.seq (.seq (.reg A4r2 [0, 1, 5, 20]) (.cond (.tmp 20) [] (.seq (.reg A4r3 [6]) .ret) [0, 1, 5] .skip)) (.seq (.reg A4r4 [0, 1, 5, 7, 8, 9]) (.seq (.reg A4r5 [7, 8, 9, 10, 11, 12]) (.seq (.reg A4r6 [6]) .ret)))))⟩
theorem A4c : compF Try.prog Try.f4 = some A4 := by kernel_rfl
theorem A4k : Callable Try.prog 4 := fun a w => Try.call4 a w
theorem A4p {ds : List D} {r : D} (hl : ds.length ≤ A4.nt) (hw : W Try.prog A4.code (Fin A4.results r) ⟨argEnv 0 ds, fun _ => none⟩) : PCon Try.prog 4 ds r := pcon_of_W mixed Try.func4 A4k A4c hl hw
/- estovers/estoverslaw21.GrantRest -/
/- estovers/estoverslaw21.GrantMore -/
/- estovers/estoverslaw21.GrantHopes -/
/- estovers/estoverslaw21.GrantFifo -/
/- estovers/estoverslaw21.GrantQueues -/
/- estovers/estoverstop.TopGrantsEnd -/
/- estovers/estoverslaw21.awake -/
abbrev A11r1 : List AIns := [⟨(some 0), (.mv (.cst (.bool false))), none⟩]
abbrev A11r2 : List AIns := [⟨(some 15), (.build [(.int .i64 0), (.int .i64 0), (.int .i64 0), (.int .i64 0), (.int .i64 0)] [(0, (1, (.cst (.int .i64 (-1))))), (1, (1, (.cst (.int .i64 4)))), (4, (1, (.cst (.int .i64 10))))]), none⟩, ⟨(some 16), (.build [(.int .i64 0), (.int .i64 0), (.int .i64 0), (.int .i64 0), (.int .i64 0)] [(0, (1, (.cst (.int .i64 0)))), (1, (1, (.cst (.int .i64 3)))), (4, (1, (.cst (.int .i64 5))))]), none⟩, ⟨(some 17), (.buildS 5 [(.int .i64 0), (.int .i64 0), (.int .i64 0), (.int .i64 0), (.int .i64 0)] 2 [(0, (5, (.tmp 15))), (5, (5, (.tmp 16)))]), none⟩, ⟨(some 1), (.mv (.tmp 17)), none⟩]
abbrev A11r3 : List AIns := [⟨(some 19), (.build [(.int .i64 0), (.int .i64 0), (.int .i64 0), (.int .i64 0)] [(0, (1, (.cst (.int .i64 2)))), (1, (1, (.cst (.int .i64 1)))), (2, (1, (.cst (.int .i64 1)))), (3, (1, (.cst (.int .i64 2))))]), none⟩, ⟨(some 20), (.mv (.tmp 1)), none⟩, ⟨(some 21), (.call (.fnc 12) [(.tmp 19), (.tmp 20), (.cst (.int .i64 9)), (.cst (.int .i64 9))]), none⟩, ⟨(some 18), (.mv (.tmp 21)), none⟩, ⟨(some 22), (.extract 0 (.tmp 18)), none⟩, ⟨(some 23), (.extract 1 (.tmp 18)), none⟩, ⟨(some 2), (.alloc [(.int .i64 0), (.int .i64 0), (.bool false)]), none⟩, ⟨none, (.store 3 (.tmp 2) (.tmp 22)), none⟩, ⟨(some 3), (.mv (.tmp 23)), none⟩]
abbrev A11r4 : List AIns := [⟨(some 25), (.build [(.int .i64 0), (.int .i64 0), (.int .i64 0), (.int .i64 0)] [(0, (1, (.cst (.int .i64 2)))), (1, (1, (.cst (.int .i64 1)))), (2, (1, (.cst (.int .i64 1)))), (3, (1, (.cst (.int .i64 1))))]), none⟩, ⟨(some 26), (.mv (.tmp 1)), none⟩, ⟨(some 27), (.call (.fnc 12) [(.tmp 25), (.tmp 26), (.cst (.int .i64 0)), (.cst (.int .i64 9))]), none⟩, ⟨(some 24), (.mv (.tmp 27)), none⟩, ⟨(some 28), (.extract 0 (.tmp 24)), none⟩, ⟨(some 29), (.extract 1 (.tmp 24)), none⟩, ⟨(some 4), (.alloc [(.int .i64 0), (.int .i64 0), (.bool false)]), none⟩, ⟨none, (.store 3 (.tmp 4) (.tmp 28)), none⟩, ⟨(some 5), (.mv (.tmp 29)), none⟩]
abbrev A11r5 : List AIns := [⟨(some 31), (.build [(.int .i64 0), (.int .i64 0), (.int .i64 0), (.int .i64 0)] [(0, (1, (.cst (.int .i64 2)))), (1, (1, (.cst (.int .i64 1)))), (2, (1, (.cst (.int .i64 1)))), (3, (1, (.cst (.int .i64 1))))]), none⟩, ⟨(some 32), (.mv (.tmp 1)), none⟩, ⟨(some 33), (.call (.fnc 12) [(.tmp 31), (.tmp 32), (.cst (.int .i64 1)), (.cst (.int .i64 1))]), none⟩, ⟨(some 30), (.mv (.tmp 33)), none⟩, ⟨(some 34), (.extract 0 (.tmp 30)), none⟩, ⟨(some 35), (.extract 1 (.tmp 30)), none⟩, ⟨(some 6), (.alloc [(.int .i64 0), (.int .i64 0), (.bool false)]), none⟩, ⟨none, (.store 3 (.tmp 6) (.tmp 34)), none⟩, ⟨(some 7), (.mv (.tmp 35)), none⟩]
abbrev A11r6 : List AIns := [⟨(some 37), (.build [(.int .i64 0), (.int .i64 0), (.int .i64 0), (.int .i64 0)] [(0, (1, (.cst (.int .i64 2)))), (1, (1, (.cst (.int .i64 1)))), (2, (1, (.cst (.int .i64 1)))), (3, (1, (.cst (.int .i64 1))))]), none⟩, ⟨(some 38), (.mv (.tmp 1)), none⟩, ⟨(some 39), (.call (.fnc 12) [(.tmp 37), (.tmp 38), (.cst (.int .i64 1)), (.cst (.int .i64 2))]), none⟩, ⟨(some 36), (.mv (.tmp 39)), none⟩, ⟨(some 40), (.extract 0 (.tmp 36)), none⟩, ⟨(some 41), (.extract 1 (.tmp 36)), none⟩, ⟨(some 8), (.alloc [(.int .i64 0), (.int .i64 0), (.bool false)]), none⟩, ⟨none, (.store 3 (.tmp 8) (.tmp 40)), none⟩, ⟨(some 9), (.mv (.tmp 41)), none⟩]
abbrev A11r7 : List AIns := [⟨(some 43), (.build [(.int .i64 0), (.int .i64 0), (.int .i64 0), (.int .i64 0)] [(0, (1, (.cst (.int .i64 2)))), (1, (1, (.cst (.int .i64 1)))), (2, (1, (.cst (.int .i64 1)))), (3, (1, (.cst (.int .i64 1))))]), none⟩, ⟨(some 44), (.buildS 4 [(.int .i64 0), (.int .i64 0), (.int .i64 0), (.int .i64 0)] 1 [(0, (4, (.tmp 43)))]), none⟩, ⟨(some 45), (.build [(.int .i64 0), (.int .i64 0), (.int .i64 0), (.int .i64 0)] [(0, (1, (.cst (.int .i64 3)))), (1, (1, (.cst (.int .i64 1)))), (2, (1, (.cst (.int .i64 1)))), (3, (1, (.cst (.int .i64 1))))]), none⟩, ⟨(some 46), (.call (.fnc 26) [(.tmp 44), (.tmp 45)]), none⟩, ⟨(some 42), (.mv (.tmp 46)), none⟩, ⟨(some 47), (.extract 0 (.tmp 42)), none⟩, ⟨(some 48), (.extract 1 (.tmp 42)), none⟩, ⟨(some 10), (.mv (.tmp 47)), none⟩, ⟨(some 11), (.mv (.tmp 48)), none⟩]
abbrev A11r8 : List AIns := [⟨(some 50), (.mv (.tmp 10)), none⟩, ⟨(some 51), (.mv (.tmp 1)), none⟩, ⟨(some 52), (.call (.fnc 17) [(.tmp 50), (.tmp 51), (.cst (.int .i64 9)), (.cst (.int .i64 9))]), none⟩, ⟨(some 49), (.mv (.tmp 52)), none⟩, ⟨(some 53), (.extract 0 (.tmp 49)), none⟩, ⟨(some 54), (.extract 1 (.tmp 49)), none⟩, ⟨(some 55), (.extract 2 (.tmp 49)), none⟩, ⟨(some 12), (.mv (.tmp 53)), none⟩, ⟨(some 13), (.mv (.tmp 54)), none⟩, ⟨(some 14), (.mv (.tmp 55)), none⟩]
abbrev A11r9 : List AIns := (⟨(some 56), (.mv (.tmp 3)), none⟩ :: ⟨(some 57), (.bin .eql (.tmp 56) (.cst (.int .i64 0))), none⟩ :: ⟨(some 58), (.mv (.tmp 57)), none⟩ :: ⟨(some 59), (.mv (.tmp 5)), (some (58, true))⟩ :: ⟨(some 60), (.bin .eql (.tmp 59) (.cst (.int .i64 0))), (some (58, true))⟩ :: ⟨(some 61), (.pick (.tmp 58) (.tmp 60) (.cst (.bool false))), none⟩ :: ⟨(some 62), (.mv (.tmp 61)), none⟩ :: ⟨(some 63), (.mv (.tmp 7)), (some (62, true))⟩ :: ⟨(some 64), (.bin .eql (.tmp 63) (.cst (.int .i64 0))), (some (62, true))⟩ :: ⟨(some 65), (.pick (.tmp 62) (.tmp 64) (.cst (.bool false))), none⟩ :: ⟨(some 66), (.mv (.tmp 65)), none⟩ :: ⟨(some 67), (.mv (.tmp 9)), (some (66, true))⟩ :: ⟨(some 68), (.bin .eql (.tmp 67) (.cst (.int .i64 0))), (some (66, true))⟩ :: ⟨(some 69), (.pick (.tmp 66) (.tmp 68) (.cst (.bool false))), none⟩ :: ⟨(some 70), (.mv (.tmp 69)), none⟩ :: ⟨(some 71), (.mv (.tmp 11)), (some (70, true))⟩ :: ⟨(some 72), (.bin .eql (.tmp 71) (.cst (.int .i64 0))), (some (70, true))⟩ :: ⟨(some 73), (.pick (.tmp 70) (.tmp 72) (.cst (.bool false))), none⟩ :: ⟨(some 74), (.mv (.tmp 73)), none⟩ :: ⟨(some 75), (.mv (.tmp 14)), (some (74, true))⟩ :: ⟨(some 76), (.bin .eql (.tmp 75) (.cst (.int .i64 0))), (some (74, true))⟩ :: ⟨(some 77), (.pick (.tmp 74) (.tmp 76) (.cst (.bool false))), none⟩ :: ⟨(some 78), (.mv (.tmp 77)), none⟩ :: ⟨(some 79), (.load true 3 (.tmp 2)), (some (78, true))⟩ :: ⟨(some 80), (.build [(.int .i64 0), (.int .i64 0), (.bool false)] [(0, (1, (.cst (.int .i64 1)))), (1, (1, (.cst (.int .i64 1))))]), (some (78, true))⟩ :: ⟨(some 81), (.eqA false [1, 1, 0] (.tmp 79) (.tmp 80)), (some (78, true))⟩ :: ⟨(some 82), (.pick (.tmp 78) (.tmp 81) (.cst (.bool false))), none⟩ :: ⟨(some 83), (.mv (.tmp 82)), none⟩ :: ⟨(some 84), (.load true 3 (.tmp 4)), (some (83, true))⟩ :: ⟨(some 85), (.build [(.int .i64 0), (.int .i64 0), (.bool false)] [(0, (1, (.cst (.int .i64 1)))), (1, (1, (.cst (.int .i64 (-1))))), (2, (1, (.cst (.bool true))))]), (some (83, true))⟩ :: ⟨(some 86), (.eqA false [1, 1, 0] (.tmp 84) (.tmp 85)), (some (83, true))⟩ :: ⟨(some 87), (.pick (.tmp 83) (.tmp 86) (.cst (.bool false))), none⟩ :: ⟨(some 88), (.mv (.tmp 87)), none⟩ :: ⟨(some 89), (.load true 3 (.tmp 6)), (some (88, true))⟩ :: ⟨(some 90), (.build [(.int .i64 0), (.int .i64 0), (.bool false)] [(0, (1, (.cst (.int .i64 1)))), (1, (1, (.cst (.int .i64 (-1)))))]), (some (88, true))⟩ :: ⟨(some 91), (.eqA false [1, 1, 0] (.tmp 89) (.tmp 90)), (some (88, true))⟩ :: ⟨(some 92), (.pick (.tmp 88) (.tmp 91) (.cst (.bool false))), none⟩ :: ⟨(some 93), (.mv (.tmp 92)), none⟩ :: ⟨(some 94), (.load true 3 (.tmp 8)), (some (93, true))⟩ :: ⟨(some 95), (.build [(.int .i64 0), (.int .i64 0), (.bool false)] [(1, (1, (.cst (.int .i64 (-1)))))]), (some (93, true))⟩ :: ⟨(some 96), (.eqA false [1, 1, 0] (.tmp 94) (.tmp 95)), (some (93, true))⟩ :: ⟨(some 97), (.pick (.tmp 93) (.tmp 96) (.cst (.bool false))), none⟩ :: ⟨(some 98), (.mv (.tmp 97)), none⟩ :: ⟨(some 99), (.mv (.tmp 10)), (some (98, true))⟩ :: ⟨(some 100), (.len (.tmp 99)), (some (98, true))⟩ :: ⟨(some 101), (.bin .eql (.tmp 100) (.cst (.int .i64 2))), (some (98, true))⟩ :: ⟨(some 102), (.pick (.tmp 98) (.tmp 101) (.cst (.bool false))), none⟩ :: ⟨(some 103), (.mv (.tmp 102)), none⟩ :: ⟨(some 104), (.mv (.tmp 12)), (some (103, true))⟩ :: ⟨(some 105), (.bin .eql (.tmp 104) (.cst (.int .i64 1))), (some (103, true))⟩ :: ⟨(some 106), (.pick (.tmp 103) (.tmp 105) (.cst (.bool false))), none⟩ :: ⟨(some 107), (.mv (.tmp 106)), none⟩ :: ⟨(some 108), (.mv (.tmp 13)), (some (107, true))⟩ :: ⟨(some 109), (.len (.tmp 108)), (some (107, true))⟩ :: ⟨(some 110), (.bin .eql (.tmp 109) (.cst (.int .i64 2))), (some (107, true))⟩ :: ⟨(some 111), (.pick (.tmp 107) (.tmp 110) (.cst (.bool false))), none⟩ :: ⟨(some 112), (.mv (.tmp 111)), none⟩ :: ⟨(some 113), (.mv (.tmp 13)), (some (112, true))⟩ :: ⟨(some 114), (.iaddr 5 (.tmp 113) (.cst (.int .i64 0))), (some (112, true))⟩ :: ⟨(some 115), (.faddr 1 (.tmp 114)), (some (112, true))⟩ :: ⟨(some 116), (.load false 1 (.tmp 115)), (some (112, true))⟩ :: ⟨(some 117), (.bin .eql (.tmp 116) (.cst (.int .i64 6))), (some (112, true))⟩ :: ⟨(some 118), (.pick (.tmp 112) (.tmp 117) (.cst (.bool false))), none⟩ :: ⟨(some 119), (.mv (.tmp 118)), none⟩ :: ⟨(some 120), (.mv (.tmp 13)), (some (119, true))⟩ :: ⟨(some 121), (.iaddr 5 (.tmp 120) (.cst (.int .i64 1))), (some (119, true))⟩ :: ⟨(some 122), (.faddr 1 (.tmp 121)), (some (119, true))⟩ :: ⟨(some 123), (.load false 1 (.tmp 122)), (some (119, true))⟩ :: ⟨(some 124), (.bin .eql (.tmp 123) (.cst (.int .i64 5))), (some (119, true))⟩ :: ⟨(some 125), (.pick (.tmp 119) (.tmp 124) (.cst (.bool false))), none⟩ :: ⟨(some 126), (.mv (.tmp 125)), none⟩ :: ⟨(some 127), (.build [(.int .i64 0), (.int .i64 0), (.int .i64 0), (.int .i64 0)] [(1, (1, (.cst (.int .i64 1)))), (2, (1, (.cst (.int .i64 3)))), (3, (1, (.cst (.int .i64 3))))]), (some (126, true))⟩ :: ⟨(some 128), (.mv (.tmp 1)), (some (126, true))⟩ :: ⟨(some 129), (.call (.fnc 14) [(.tmp 127), (.tmp 128), (.cst (.int .i64 9)), (.cst (.int .i64 9))]), (some (126, true))⟩ :: ⟨(some 130), (.pick (.tmp 126) (.tmp 129) (.cst (.bool false))), none⟩ :: ⟨(some 131), (.mv (.tmp 130)), none⟩ :: ⟨(some 132), (.build [(.int .i64 0), (.int .i64 0), (.int .i64 0), (.int .i64 0)] [(1, (1, (.cst (.int .i64 1)))), (2, (1, (.cst (.int .i64 3)))), (3, (1, (.cst (.int .i64 2))))]), (some (131, true))⟩ :: ⟨(some 133), (.mv (.tmp 1)), (some (131, true))⟩ :: ⟨(some 134), (.call (.fnc 14) [(.tmp 132), (.tmp 133), (.cst (.int .i64 9)), (.cst (.int .i64 9))]), (some (131, true))⟩ :: ⟨(some 135), (.un .not (.tmp 134)), (some (131, true))⟩ :: ⟨(some 136), (.pick (.tmp 131) (.tmp 135) (.cst (.bool false))), none⟩ :: ⟨(some 0), (.mv (.tmp 136)), none⟩ :: [])
def A11 : AFun := ⟨137, 0, [(.tmp 0)], (.seq (.reg A11r1 []) (.seq (.reg A11r2 [1]) (.seq (.reg A11r3 [1, 2, 3]) (.seq (.reg A11r4 [1, 2, 3, 4, 5]) (.seq (.reg A11r5 [1, 2, 3, 4, 5, 6, 7]) (.seq (.reg A11r6 [1, 2, 3, 4, 5, 6, 7, 8, 9]) (.seq (.reg A11r7 [1, 2, 3, 4, 5, 6, 7, 8, 9, 10, 11]) (.seq (.reg A11r8 [1, 2, 3, 4, 5, 6, 7, 8, 9, 10, 11, 12, 13, 14]) (.seq (.reg A11r9 [0]) .ret)))))))))⟩
theorem A11c : compF Try.prog Try.f11 = some A11 := by kernel_rfl
theorem A11k : Callable Try.prog 11 := fun a w => Try.call11 a w
theorem A11p {ds : List D} {r : D} (hl : ds.length ≤ A11.nt) (hw : W Try.prog A11.code (Fin A11.results r) ⟨argEnv 0 ds, fun _ => none⟩) : PCon Try.prog 11 ds r := pcon_of_W mixed Try.func11 A11k A11c hl hw
/- estovers/grant.Short -/
abbrev A12r1 : List AIns := [⟨(some 4), (.box (.tmp 0)), none⟩, ⟨(some 8), (.alloc [(.int .i64 0), (.int .i64 0), (.bool false)]), none⟩, ⟨(some 9), (.mv (.cst (.int .i64 0))), none⟩]
abbrev A12r2 : List AIns := [⟨(some 15), (.load true 4 (.tmp 4)), none⟩, ⟨(some 16), (.call (.fnc 34) [(.tmp 15)]), none⟩, ⟨(some 17), (.un .not (.tmp 16)), none⟩]
abbrev A12r3 : List AIns := [⟨(some 18), (.build [(.int .i64 0), (.int .i64 0), (.bool false)] []), none⟩, ⟨none, (.store 3 (.tmp 8) (.tmp 18)), none⟩, ⟨(some 9), (.mv (.cst (.int .i64 2))), none⟩]
abbrev A12r4 : List AIns := [⟨(some 19), (.mv (.tmp 1)), none⟩, ⟨(some 20), (.call (.fnc 22) [(.tmp 19)]), none⟩, ⟨(some 10), (.mv (.tmp 20)), none⟩]
abbrev A12r5 : List AIns := [⟨(some 21), (.mv (.tmp 10)), none⟩, ⟨(some 22), (.bin .neq (.tmp 21) (.cst (.int .i64 0))), none⟩]
abbrev A12r6 : List AIns := [⟨(some 23), (.build [(.int .i64 0), (.int .i64 0), (.bool false)] []), none⟩, ⟨(some 24), (.mv (.tmp 10)), none⟩, ⟨none, (.store 3 (.tmp 8) (.tmp 23)), none⟩, ⟨(some 9), (.mv (.tmp 24)), none⟩]
abbrev A12r7 : List AIns := [⟨(some 25), (.faddr 1 (.tmp 4)), none⟩, ⟨(some 26), (.load false 1 (.tmp 25)), none⟩, ⟨(some 27), (.mv (.tmp 1)), none⟩, ⟨(some 28), (.len (.tmp 27)), none⟩, ⟨(some 29), (.bin .geq (.tmp 26) (.tmp 28)), none⟩]
abbrev A12r8 : List AIns := [⟨(some 30), (.build [(.int .i64 0), (.int .i64 0), (.bool false)] []), none⟩, ⟨none, (.store 3 (.tmp 8) (.tmp 30)), none⟩, ⟨(some 9), (.mv (.cst (.int .i64 6))), none⟩]
abbrev A12r9 : List AIns := [⟨(some 31), (.faddr 2 (.tmp 4)), none⟩, ⟨(some 32), (.load false 1 (.tmp 31)), none⟩, ⟨(some 33), (.faddr 3 (.tmp 4)), none⟩, ⟨(some 34), (.load false 1 (.tmp 33)), none⟩, ⟨(some 35), (.bin .add (.tmp 32) (.tmp 34)), none⟩, ⟨(some 11), (.mv (.tmp 35)), none⟩]
abbrev A12r10 : List AIns := [⟨(some 36), (.mv (.tmp 1)), none⟩, ⟨(some 37), (.faddr 1 (.tmp 4)), none⟩, ⟨(some 38), (.load false 1 (.tmp 37)), none⟩, ⟨(some 39), (.call (.fnc 35) [(.tmp 36), (.tmp 38)]), none⟩, ⟨(some 40), (.len (.tmp 39)), none⟩, ⟨(some 41), (.mv (.cst (.int .i64 0))), none⟩]
abbrev A12r12 : List AIns := [⟨(some 42), (.bin .lss (.tmp 41) (.tmp 40)), none⟩]
abbrev A12r13 : List AIns := [⟨(some 43), (.iaddr 1 (.tmp 39) (.tmp 41)), none⟩, ⟨(some 44), (.load false 1 (.tmp 43)), none⟩, ⟨(some 13), (.mv (.tmp 44)), none⟩]
abbrev A12d14 : List AIns := [⟨(some 45), (.mv (.tmp 1)), none⟩, ⟨(some 46), (.mv (.tmp 13)), none⟩, ⟨(some 47), (.iaddr 5 (.tmp 45) (.tmp 46)), none⟩, ⟨(some 48), (.faddr 4 (.tmp 47)), none⟩, ⟨(some 49), (.load false 1 (.tmp 48)), none⟩, ⟨(some 50), (.mv (.tmp 1)), none⟩, ⟨(some 51), (.mv (.tmp 13)), none⟩, ⟨(some 52), (.iaddr 5 (.tmp 50) (.tmp 51)), none⟩, ⟨(some 53), (.faddr 1 (.tmp 52)), none⟩, ⟨(some 54), (.load false 1 (.tmp 53)), none⟩, ⟨(some 55), (.bin .sub (.tmp 49) (.tmp 54)), none⟩, ⟨(some 14), (.mv (.tmp 55)), none⟩]
abbrev A12r15 : List AIns := [⟨(some 56), (.mv (.tmp 11)), none⟩, ⟨(some 57), (.mv (.tmp 14)), none⟩, ⟨(some 58), (.bin .gtr (.tmp 56) (.tmp 57)), none⟩]
abbrev A12r16 : List AIns := [⟨(some 59), (.mv (.tmp 11)), none⟩, ⟨(some 60), (.mv (.tmp 14)), none⟩, ⟨(some 61), (.bin .sub (.tmp 59) (.tmp 60)), none⟩, ⟨(some 62), (.mv (.tmp 13)), none⟩, ⟨(some 63), (.build [(.int .i64 0), (.int .i64 0), (.bool false)] [(0, (1, (.tmp 61))), (1, (1, (.tmp 62)))]), none⟩, ⟨none, (.store 3 (.tmp 8) (.tmp 63)), none⟩, ⟨(some 9), (.mv (.cst (.int .i64 0))), none⟩]
abbrev A12c17 : ACode := (.seq (.reg A12r13 [1, 2, 3, 4, 8, 11, 13, 39, 40, 41]) (.seq (.dreg A12d14 [[], [], [0, 1], [0, 1, 2], [0, 1, 2, 3], [], [], [5, 6], [5, 6, 7], [5, 6, 7, 8], [0, 1, 2, 3, 4, 5, 6, 7, 8, 9], [0, 1, 2, 3, 4, 5, 6, 7, 8, 9, 10]] [1, 2, 3, 4, 8, 11, 13, 14, 39, 40, 41]) (.seq (.reg A12r15 [1, 2, 3, 4, 8, 11, 13, 14, 39, 40, 41, 58]) (.cond (.tmp 58) [8, 11, 13, 14] (.seq (.reg A12r16 [8, 9]) .ret) [1, 2, 3, 4, 8, 11, 39, 40, 41] .skip))))
abbrev A12r18 : List AIns := [⟨(some 64), (.bin .add (.tmp 41) (.cst (.int .i64 1))), none⟩, ⟨(some 41), (.mv (.tmp 64)), none⟩]
abbrev A12l11 : ACode := (.seq (.reg A12r12 [1, 2, 3, 4, 8, 11, 39, 40, 41, 42]) (.seq (.cond (.tmp 42) [1, 2, 3, 4, 8, 11, 39, 40, 41] .skip [2, 3, 4, 8, 11] (.exit 0)) (.seq (.block 1 A12c17) (.reg A12r18 [1, 2, 3, 4, 8, 11, 39, 40, 41]))))
abbrev A12r19 : List AIns := [⟨(some 65), (.mv (.tmp 2)), none⟩, ⟨(some 66), (.mima true [(.tmp 65), (.cst (.int .i64 (-1048576)))]), none⟩, ⟨(some 67), (.mv (.tmp 3)), none⟩, ⟨(some 68), (.mima true [(.tmp 67), (.cst (.int .i64 (-1048576)))]), none⟩, ⟨(some 2), (.mv (.tmp 66)), none⟩, ⟨(some 3), (.mv (.tmp 68)), none⟩]
abbrev A12r20 : List AIns := [⟨(some 70), (.faddr 2 (.tmp 4)), none⟩, ⟨(some 71), (.load false 1 (.tmp 70)), none⟩, ⟨(some 72), (.mv (.tmp 2)), none⟩, ⟨(some 73), (.bin .gtr (.tmp 71) (.tmp 72)), none⟩, ⟨(some 69), (.mv (.tmp 73)), none⟩]
abbrev A12r21 : List AIns := [⟨(some 74), (.faddr 2 (.tmp 4)), none⟩, ⟨(some 75), (.load false 1 (.tmp 74)), none⟩, ⟨(some 76), (.mv (.tmp 2)), none⟩, ⟨(some 77), (.bin .sub (.tmp 75) (.tmp 76)), none⟩, ⟨(some 78), (.build [(.int .i64 0), (.int .i64 0), (.bool false)] [(0, (1, (.tmp 77))), (1, (1, (.cst (.int .i64 (-1))))), (2, (1, (.cst (.bool true))))]), none⟩, ⟨none, (.store 3 (.tmp 8) (.tmp 78)), none⟩, ⟨(some 9), (.mv (.cst (.int .i64 0))), none⟩]
abbrev A12r22 : List AIns := [⟨(some 80), (.mv (.tmp 11)), none⟩, ⟨(some 81), (.mv (.tmp 3)), none⟩, ⟨(some 82), (.bin .gtr (.tmp 80) (.tmp 81)), none⟩, ⟨(some 79), (.mv (.tmp 82)), none⟩]
abbrev A12r23 : List AIns := [⟨(some 83), (.mv (.tmp 11)), none⟩, ⟨(some 84), (.mv (.tmp 3)), none⟩, ⟨(some 85), (.bin .sub (.tmp 83) (.tmp 84)), none⟩, ⟨(some 86), (.build [(.int .i64 0), (.int .i64 0), (.bool false)] [(0, (1, (.tmp 85))), (1, (1, (.cst (.int .i64 (-1)))))]), none⟩, ⟨none, (.store 3 (.tmp 8) (.tmp 86)), none⟩, ⟨(some 9), (.mv (.cst (.int .i64 0))), none⟩]
abbrev A12c24 : ACode := (.seq (.reg A12r22 [3, 8, 11, 79]) (.cond (.tmp 79) [3, 8, 11] (.seq (.reg A12r23 [8, 9]) .ret) [8] .skip))
abbrev A12c25 : ACode := (.seq (.reg A12r20 [2, 3, 4, 8, 11, 69]) (.cond (.tmp 69) [2, 4, 8] (.seq (.reg A12r21 [8, 9]) .ret) [3, 8, 11] A12c24))
abbrev A12r26 : List AIns := [⟨(some 87), (.build [(.int .i64 0), (.int .i64 0), (.bool false)] [(1, (1, (.cst (.int .i64 (-1)))))]), none⟩, ⟨none, (.store 3 (.tmp 8) (.tmp 87)), none⟩, ⟨(some 9), (.mv (.cst (.int .i64 0))), none⟩]
def A12 : AFun := ⟨88, 4, [(.cell 8 true 3), (.tmp 9)], (.seq (.reg A12r1 [1, 2, 3, 4, 8]) (.seq (.seq (.reg A12r2 [1, 2, 3, 4, 8, 17]) (.cond (.tmp 17) [8] (.seq (.reg A12r3 [8, 9]) .ret) [1, 2, 3, 4, 8] .skip)) (.seq (.seq (.reg A12r4 [1, 2, 3, 4, 8, 10]) (.seq (.reg A12r5 [1, 2, 3, 4, 8, 10, 22]) (.cond (.tmp 22) [8, 10] (.seq (.reg A12r6 [8, 9]) .ret) [1, 2, 3, 4, 8] .skip))) (.seq (.seq (.reg A12r7 [1, 2, 3, 4, 8, 29]) (.cond (.tmp 29) [8] (.seq (.reg A12r8 [8, 9]) .ret) [1, 2, 3, 4, 8] .skip)) (.seq (.reg A12r9 [1, 2, 3, 4, 8, 11]) (.seq (.seq (.reg A12r10 [1, 2, 3, 4, 8, 11, 39, 40, 41]) (.block 0 (.loop A12l11))) (.seq (.reg A12r19 [2, 3, 4, 8, 11]) (.seq (.block 2 A12c25) (.seq (.reg A12r26 [8, 9]) .ret)))))))))⟩
theorem A12c : compF Try.prog Try.f12 = some A12 := by kernel_rfl
theorem A12k : Callable Try.prog 12 := fun a w => Try.call12 a w
theorem A12p {ds : List D} {r : D} (hl : ds.length ≤ A12.nt) (hw : W Try.prog A12.code (Fin A12.results r) ⟨argEnv 0 ds, fun _ => none⟩) : PCon Try.prog 12 ds r := pcon_of_W mixed Try.func12 A12k A12c hl hw
/- estovers/estoversref21.Short -/
abbrev A13r1 : List AIns := [⟨(some 4), (.box (.tmp 0)), none⟩, ⟨(some 8), (.alloc [(.int .i64 0), (.int .i64 0), (.bool false)]), none⟩, ⟨(some 9), (.mv (.cst (.int .i64 0))), none⟩]
abbrev A13r2 : List AIns := [⟨(some 14), (.load true 4 (.tmp 4)), none⟩, ⟨(some 15), (.call (.fnc 36) [(.tmp 14)]), none⟩, ⟨(some 16), (.un .not (.tmp 15)), none⟩]
abbrev A13r3 : List AIns := [⟨(some 17), (.build [(.int .i64 0), (.int .i64 0), (.bool false)] []), none⟩, ⟨none, (.store 3 (.tmp 8) (.tmp 17)), none⟩, ⟨(some 9), (.mv (.cst (.int .i64 2))), none⟩]
abbrev A13r4 : List AIns := [⟨(some 18), (.mv (.tmp 1)), none⟩, ⟨(some 19), (.call (.fnc 37) [(.tmp 18)]), none⟩, ⟨(some 10), (.mv (.tmp 19)), none⟩]
abbrev A13r5 : List AIns := [⟨(some 20), (.mv (.tmp 10)), none⟩, ⟨(some 21), (.bin .neq (.tmp 20) (.cst (.int .i64 0))), none⟩]
abbrev A13r6 : List AIns := [⟨(some 22), (.build [(.int .i64 0), (.int .i64 0), (.bool false)] []), none⟩, ⟨(some 23), (.mv (.tmp 10)), none⟩, ⟨none, (.store 3 (.tmp 8) (.tmp 22)), none⟩, ⟨(some 9), (.mv (.tmp 23)), none⟩]
abbrev A13r7 : List AIns := [⟨(some 24), (.faddr 1 (.tmp 4)), none⟩, ⟨(some 25), (.load false 1 (.tmp 24)), none⟩, ⟨(some 26), (.mv (.tmp 1)), none⟩, ⟨(some 27), (.len (.tmp 26)), none⟩, ⟨(some 28), (.bin .geq (.tmp 25) (.tmp 27)), none⟩]
abbrev A13r8 : List AIns := [⟨(some 29), (.build [(.int .i64 0), (.int .i64 0), (.bool false)] []), none⟩, ⟨none, (.store 3 (.tmp 8) (.tmp 29)), none⟩, ⟨(some 9), (.mv (.cst (.int .i64 6))), none⟩]
abbrev A13r9 : List AIns := [⟨(some 30), (.mv (.tmp 1)), none⟩, ⟨(some 31), (.faddr 1 (.tmp 4)), none⟩, ⟨(some 32), (.load false 1 (.tmp 31)), none⟩, ⟨(some 33), (.call (.fnc 38) [(.tmp 30), (.tmp 32)]), none⟩, ⟨(some 11), (.mv (.tmp 33)), none⟩]
abbrev A13r10 : List AIns := [⟨(some 12), (.mv (.cst (.int .i64 0))), none⟩]
abbrev A13r12 : List AIns := [⟨(some 34), (.mv (.tmp 12)), none⟩, ⟨(some 35), (.mv (.tmp 11)), none⟩, ⟨(some 36), (.len (.tmp 35)), none⟩, ⟨(some 37), (.bin .lss (.tmp 34) (.tmp 36)), none⟩]
abbrev A13d13 : List AIns := [⟨(some 40), (.mv (.tmp 1)), none⟩, ⟨(some 41), (.mv (.tmp 11)), none⟩, ⟨(some 42), (.mv (.tmp 12)), none⟩, ⟨(some 43), (.iaddr 1 (.tmp 41) (.tmp 42)), none⟩, ⟨(some 44), (.load false 1 (.tmp 43)), none⟩, ⟨(some 45), (.iaddr 5 (.tmp 40) (.tmp 44)), none⟩, ⟨(some 46), (.faddr 4 (.tmp 45)), none⟩, ⟨(some 47), (.load false 1 (.tmp 46)), none⟩, ⟨(some 48), (.mv (.tmp 1)), none⟩, ⟨(some 49), (.mv (.tmp 11)), none⟩, ⟨(some 50), (.mv (.tmp 12)), none⟩, ⟨(some 51), (.iaddr 1 (.tmp 49) (.tmp 50)), none⟩, ⟨(some 52), (.load false 1 (.tmp 51)), none⟩, ⟨(some 53), (.iaddr 5 (.tmp 48) (.tmp 52)), none⟩, ⟨(some 54), (.faddr 1 (.tmp 53)), none⟩, ⟨(some 55), (.load false 1 (.tmp 54)), none⟩, ⟨(some 56), (.bin .sub (.tmp 47) (.tmp 55)), none⟩, ⟨(some 13), (.mv (.tmp 56)), none⟩]
abbrev A13r14 : List AIns := [⟨(some 57), (.load true 4 (.tmp 4)), none⟩, ⟨(some 58), (.call (.fnc 39) [(.tmp 57)]), none⟩, ⟨(some 59), (.mv (.tmp 13)), none⟩, ⟨(some 60), (.bin .gtr (.tmp 58) (.tmp 59)), none⟩]
abbrev A13d15 : List AIns := [⟨(some 61), (.load true 4 (.tmp 4)), none⟩, ⟨(some 62), (.call (.fnc 39) [(.tmp 61)]), none⟩, ⟨(some 63), (.mv (.tmp 13)), none⟩, ⟨(some 64), (.bin .sub (.tmp 62) (.tmp 63)), none⟩, ⟨(some 65), (.mv (.tmp 11)), none⟩, ⟨(some 66), (.mv (.tmp 12)), none⟩, ⟨(some 67), (.iaddr 1 (.tmp 65) (.tmp 66)), none⟩, ⟨(some 68), (.load false 1 (.tmp 67)), none⟩, ⟨(some 69), (.build [(.int .i64 0), (.int .i64 0), (.bool false)] [(0, (1, (.tmp 64))), (1, (1, (.tmp 68)))]), none⟩, ⟨none, (.store 3 (.tmp 8) (.tmp 69)), none⟩, ⟨(some 9), (.mv (.cst (.int .i64 0))), none⟩]
abbrev A13d15a : List AIns := [⟨(some 61), (.load true 4 (.tmp 4)), none⟩, ⟨(some 62), (.call (.fnc 39) [(.tmp 61)]), none⟩, ⟨(some 63), (.mv (.tmp 13)), none⟩, ⟨(some 64), (.bin .sub (.tmp 62) (.tmp 63)), none⟩, ⟨(some 65), (.mv (.tmp 11)), none⟩, ⟨(some 66), (.mv (.tmp 12)), none⟩, ⟨(some 67), (.iaddr 1 (.tmp 65) (.tmp 66)), none⟩, ⟨(some 68), (.load false 1 (.tmp 67)), none⟩, ⟨(some 69), (.build [(.int .i64 0), (.int .i64 0), (.bool false)] [(0, (1, (.tmp 64))), (1, (1, (.tmp 68)))]), none⟩]
abbrev A13d15b : List AIns := [⟨none, (.store 3 (.tmp 8) (.tmp 69)), none⟩, ⟨(some 9), (.mv (.cst (.int .i64 0))), none⟩]
abbrev A13c16 : ACode := (.seq (.dreg A13d15 [[], [0], [], [0, 1, 2], [], [], [4, 5], [4, 5, 6], [0, 1, 2, 3, 4, 5, 6, 7], [0, 1, 2, 3, 4, 5, 6, 7, 8], [0, 1, 2, 3, 4, 5, 6, 7, 8, 9]] [8, 9]) .ret)
abbrev A13c17 : ACode := (.seq (.dreg A13d13 [[], [], [], [1, 2], [1, 2, 3], [0, 1, 2, 3, 4], [0, 1, 2, 3, 4, 5], [0, 1, 2, 3, 4, 5, 6], [], [], [], [9, 10], [9, 10, 11], [8, 9, 10, 11, 12], [8, 9, 10, 11, 12, 13], [8, 9, 10, 11, 12, 13, 14], [0, 1, 2, 3, 4, 5, 6, 7, 8, 9, 10, 11, 12, 13, 14, 15], [0, 1, 2, 3, 4, 5, 6, 7, 8, 9, 10, 11, 12, 13, 14, 15, 16]] [1, 2, 3, 4, 8, 11, 12, 13]) (.seq (.reg A13r14 [1, 2, 3, 4, 8, 11, 12, 13, 60]) (.cond (.tmp 60) [4, 8, 11, 12, 13] A13c16 [1, 2, 3, 4, 8, 11, 12] .skip)))
abbrev A13r18 : List AIns := [⟨(some 38), (.mv (.tmp 12)), none⟩, ⟨(some 39), (.bin .add (.tmp 38) (.cst (.int .i64 1))), none⟩, ⟨(some 12), (.mv (.tmp 39)), none⟩]
abbrev A13l11 : ACode := (.seq (.seq (.reg A13r12 [1, 2, 3, 4, 8, 11, 12, 37]) (.cond (.tmp 37) [1, 2, 3, 4, 8, 11, 12] .skip [2, 3, 4, 8] (.exit 0))) (.seq (.block 1 A13c17) (.reg A13r18 [1, 2, 3, 4, 8, 11, 12])))
abbrev A13r19 : List AIns := [⟨(some 70), (.mv (.tmp 2)), none⟩, ⟨(some 71), (.mima true [(.tmp 70), (.cst (.int .i64 (-1048576)))]), none⟩, ⟨(some 72), (.mv (.tmp 3)), none⟩, ⟨(some 73), (.mima true [(.tmp 72), (.cst (.int .i64 (-1048576)))]), none⟩, ⟨(some 2), (.mv (.tmp 71)), none⟩, ⟨(some 3), (.mv (.tmp 73)), none⟩]
abbrev A13r20 : List AIns := [⟨(some 74), (.faddr 2 (.tmp 4)), none⟩, ⟨(some 75), (.load false 1 (.tmp 74)), none⟩, ⟨(some 76), (.mv (.tmp 2)), none⟩, ⟨(some 77), (.bin .gtr (.tmp 75) (.tmp 76)), none⟩]
abbrev A13r21 : List AIns := [⟨(some 78), (.faddr 2 (.tmp 4)), none⟩, ⟨(some 79), (.load false 1 (.tmp 78)), none⟩, ⟨(some 80), (.mv (.tmp 2)), none⟩, ⟨(some 81), (.bin .sub (.tmp 79) (.tmp 80)), none⟩, ⟨(some 82), (.build [(.int .i64 0), (.int .i64 0), (.bool false)] [(0, (1, (.tmp 81))), (1, (1, (.cst (.int .i64 (-1))))), (2, (1, (.cst (.bool true))))]), none⟩, ⟨none, (.store 3 (.tmp 8) (.tmp 82)), none⟩, ⟨(some 9), (.mv (.cst (.int .i64 0))), none⟩]
abbrev A13r22 : List AIns := [⟨(some 83), (.load true 4 (.tmp 4)), none⟩, ⟨(some 84), (.call (.fnc 39) [(.tmp 83)]), none⟩, ⟨(some 85), (.mv (.tmp 3)), none⟩, ⟨(some 86), (.bin .gtr (.tmp 84) (.tmp 85)), none⟩]
abbrev A13r23 : List AIns := [⟨(some 87), (.load true 4 (.tmp 4)), none⟩, ⟨(some 88), (.call (.fnc 39) [(.tmp 87)]), none⟩, ⟨(some 89), (.mv (.tmp 3)), none⟩, ⟨(some 90), (.bin .sub (.tmp 88) (.tmp 89)), none⟩, ⟨(some 91), (.build [(.int .i64 0), (.int .i64 0), (.bool false)] [(0, (1, (.tmp 90))), (1, (1, (.cst (.int .i64 (-1)))))]), none⟩, ⟨none, (.store 3 (.tmp 8) (.tmp 91)), none⟩, ⟨(some 9), (.mv (.cst (.int .i64 0))), none⟩]
abbrev A13r24 : List AIns := [⟨(some 92), (.build [(.int .i64 0), (.int .i64 0), (.bool false)] [(1, (1, (.cst (.int .i64 (-1)))))]), none⟩, ⟨none, (.store 3 (.tmp 8) (.tmp 92)), none⟩, ⟨(some 9), (.mv (.cst (.int .i64 0))), none⟩]
def A13 : AFun := ⟨93, 4, [(.cell 8 true 3), (.tmp 9)], (.seq (.reg A13r1 [1, 2, 3, 4, 8]) (.seq (.seq (.reg A13r2 [1, 2, 3, 4, 8, 16]) (.cond (.tmp 16) [8] (.seq (.reg A13r3 [8, 9]) .ret) [1, 2, 3, 4, 8] .skip)) (.seq (.reg A13r4 [1, 2, 3, 4, 8, 10]) (.seq (.seq (.reg A13r5 [1, 2, 3, 4, 8, 10, 21]) (.cond (.tmp 21) [8, 10] (.seq (.reg A13r6 [8, 9]) .ret) [1, 2, 3, 4, 8] .skip)) (.seq (.seq (.reg A13r7 [1, 2, 3, 4, 8, 28]) (.cond (.tmp 28) [8] (.seq (.reg A13r8 [8, 9]) .ret) [1, 2, 3, 4, 8] .skip)) (.seq (.reg A13r9 [1, 2, 3, 4, 8, 11]) (.seq (.seq (.reg A13r10 [1, 2, 3, 4, 8, 11, 12]) (.block 0 (.loop A13l11))) (.seq (.reg A13r19 [2, 3, 4, 8]) (.seq (.seq (.reg A13r20 [2, 3, 4, 8, 77]) (.cond (.tmp 77) [2, 4, 8] (.seq (.reg A13r21 [8, 9]) .ret) [3, 4, 8] .skip)) (.seq (.seq (.reg A13r22 [3, 4, 8, 86]) (.cond (.tmp 86) [3, 4, 8] (.seq (.reg A13r23 [8, 9]) .ret) [8] .skip)) (.seq (.reg A13r24 [8, 9]) .ret)))))))))))⟩
theorem A13c : compF Try.prog Try.f13 = some A13 := by kernel_rfl
theorem A13k : Callable Try.prog 13 := fun a w => Try.call13 a w
theorem A13p {ds : List D} {r : D} (hl : ds.length ≤ A13.nt) (hw : W Try.prog A13.code (Fin A13.results r) ⟨argEnv 0 ds, fun _ => none⟩) : PCon Try.prog 13 ds r := pcon_of_W mixed Try.func13 A13k A13c hl hw
/- estovers/grant.Hopeless -/
abbrev A14r1 : List AIns := [⟨(some 4), (.box (.tmp 0)), none⟩, ⟨(some 8), (.mv (.cst (.bool false))), none⟩]
abbrev A14r2 : List AIns := [⟨(some 12), (.load true 4 (.tmp 4)), none⟩, ⟨(some 13), (.call (.fnc 34) [(.tmp 12)]), none⟩, ⟨(some 14), (.un .not (.tmp 13)), none⟩, ⟨(some 15), (.mv (.tmp 14)), none⟩, ⟨(some 16), (.mv (.tmp 1)), (some (15, false))⟩, ⟨(some 17), (.call (.fnc 22) [(.tmp 16)]), (some (15, false))⟩, ⟨(some 18), (.bin .neq (.tmp 17) (.cst (.int .i64 0))), (some (15, false))⟩, ⟨(some 19), (.pick (.tmp 15) (.cst (.bool true)) (.tmp 18)), none⟩, ⟨(some 20), (.mv (.tmp 19)), none⟩, ⟨(some 21), (.faddr 1 (.tmp 4)), (some (20, false))⟩, ⟨(some 22), (.load false 1 (.tmp 21)), (some (20, false))⟩, ⟨(some 23), (.mv (.tmp 1)), (some (20, false))⟩, ⟨(some 24), (.len (.tmp 23)), (some (20, false))⟩, ⟨(some 25), (.bin .geq (.tmp 22) (.tmp 24)), (some (20, false))⟩, ⟨(some 26), (.pick (.tmp 20) (.cst (.bool true)) (.tmp 25)), none⟩]
abbrev A14r3 : List AIns := [⟨(some 8), (.mv (.cst (.bool true))), none⟩]
abbrev A14r4 : List AIns := [⟨(some 27), (.faddr 2 (.tmp 4)), none⟩, ⟨(some 28), (.load false 1 (.tmp 27)), none⟩, ⟨(some 29), (.faddr 3 (.tmp 4)), none⟩, ⟨(some 30), (.load false 1 (.tmp 29)), none⟩, ⟨(some 31), (.bin .add (.tmp 28) (.tmp 30)), none⟩, ⟨(some 9), (.mv (.tmp 31)), none⟩]
abbrev A14r5 : List AIns := [⟨(some 32), (.mv (.tmp 1)), none⟩, ⟨(some 33), (.faddr 1 (.tmp 4)), none⟩, ⟨(some 34), (.load false 1 (.tmp 33)), none⟩, ⟨(some 35), (.call (.fnc 35) [(.tmp 32), (.tmp 34)]), none⟩, ⟨(some 36), (.len (.tmp 35)), none⟩, ⟨(some 37), (.mv (.cst (.int .i64 0))), none⟩]
abbrev A14r7 : List AIns := [⟨(some 38), (.bin .lss (.tmp 37) (.tmp 36)), none⟩]
abbrev A14r8 : List AIns := [⟨(some 39), (.iaddr 1 (.tmp 35) (.tmp 37)), none⟩, ⟨(some 40), (.load false 1 (.tmp 39)), none⟩, ⟨(some 11), (.mv (.tmp 40)), none⟩]
abbrev A14r9 : List AIns := [⟨(some 41), (.mv (.tmp 9)), none⟩, ⟨(some 42), (.mv (.tmp 1)), none⟩, ⟨(some 43), (.mv (.tmp 11)), none⟩, ⟨(some 44), (.iaddr 5 (.tmp 42) (.tmp 43)), none⟩, ⟨(some 45), (.faddr 4 (.tmp 44)), none⟩, ⟨(some 46), (.load false 1 (.tmp 45)), none⟩, ⟨(some 47), (.bin .gtr (.tmp 41) (.tmp 46)), none⟩]
abbrev A14r10 : List AIns := [⟨(some 8), (.mv (.cst (.bool true))), none⟩]
abbrev A14c11 : ACode := (.seq (.reg A14r8 [1, 2, 3, 4, 9, 11, 35, 36, 37]) (.seq (.reg A14r9 [1, 2, 3, 4, 9, 35, 36, 37, 47]) (.cond (.tmp 47) [] (.seq (.reg A14r10 [8]) .ret) [1, 2, 3, 4, 9, 35, 36, 37] .skip)))
abbrev A14r12 : List AIns := [⟨(some 48), (.bin .add (.tmp 37) (.cst (.int .i64 1))), none⟩, ⟨(some 37), (.mv (.tmp 48)), none⟩]
abbrev A14l6 : ACode := (.seq (.reg A14r7 [1, 2, 3, 4, 9, 35, 36, 37, 38]) (.seq (.cond (.tmp 38) [1, 2, 3, 4, 9, 35, 36, 37] .skip [2, 3, 4, 9] (.exit 0)) (.seq (.block 1 A14c11) (.reg A14r12 [1, 2, 3, 4, 9, 35, 36, 37]))))
abbrev A14r13 : List AIns := [⟨(some 49), (.faddr 2 (.tmp 4)), none⟩, ⟨(some 50), (.load false 1 (.tmp 49)), none⟩, ⟨(some 51), (.mv (.tmp 2)), none⟩, ⟨(some 52), (.bin .gtr (.tmp 50) (.tmp 51)), none⟩, ⟨(some 53), (.mv (.tmp 52)), none⟩, ⟨(some 54), (.mv (.tmp 9)), (some (53, false))⟩, ⟨(some 55), (.mv (.tmp 3)), (some (53, false))⟩, ⟨(some 56), (.bin .gtr (.tmp 54) (.tmp 55)), (some (53, false))⟩, ⟨(some 57), (.pick (.tmp 53) (.cst (.bool true)) (.tmp 56)), none⟩, ⟨(some 8), (.mv (.tmp 57)), none⟩]
def A14 : AFun := ⟨58, 4, [(.tmp 8)], (.seq (.reg A14r1 [1, 2, 3, 4]) (.seq (.seq (.reg A14r2 [1, 2, 3, 4, 26]) (.cond (.tmp 26) [] (.seq (.reg A14r3 [8]) .ret) [1, 2, 3, 4] .skip)) (.seq (.reg A14r4 [1, 2, 3, 4, 9]) (.seq (.seq (.reg A14r5 [1, 2, 3, 4, 9, 35, 36, 37]) (.block 0 (.loop A14l6))) (.seq (.reg A14r13 [8]) .ret)))))⟩
theorem A14c : compF Try.prog Try.f14 = some A14 := by kernel_rfl
theorem A14k : Callable Try.prog 14 := fun a w => Try.call14 a w
theorem A14p {ds : List D} {r : D} (hl : ds.length ≤ A14.nt) (hw : W Try.prog A14.code (Fin A14.results r) ⟨argEnv 0 ds, fun _ => none⟩) : PCon Try.prog 14 ds r := pcon_of_W mixed Try.func14 A14k A14c hl hw
/- estovers/estoversref21.Hopeless -/
/- estovers/estoverslaw21.few -/
abbrev A16r1 : List AIns := [⟨(some 4), (.mv (.cst (.bool false))), none⟩]
abbrev A16r2 : List AIns := [⟨(some 5), (.mv (.tmp 0)), none⟩, ⟨(some 6), (.len (.tmp 5)), none⟩, ⟨(some 7), (.bin .leq (.tmp 6) (.cst (.int .i64 20))), none⟩, ⟨(some 8), (.mv (.tmp 7)), none⟩, ⟨(some 9), (.mv (.tmp 1)), (some (8, true))⟩, ⟨(some 10), (.len (.tmp 9)), (some (8, true))⟩, ⟨(some 11), (.bin .leq (.tmp 10) (.cst (.int .i64 20))), (some (8, true))⟩, ⟨(some 12), (.pick (.tmp 8) (.tmp 11) (.cst (.bool false))), none⟩, ⟨(some 4), (.mv (.tmp 12)), none⟩]
def A16 : AFun := ⟨13, 2, [(.tmp 4)], (.seq (.reg A16r1 [0, 1]) (.seq (.reg A16r2 [4]) .ret))⟩
theorem A16c : compF Try.prog Try.f16 = some A16 := by kernel_rfl
theorem A16k : Callable Try.prog 16 := fun a w => Try.call16 a w
theorem A16p {ds : List D} {r : D} (hl : ds.length ≤ A16.nt) (hw : W Try.prog A16.code (Fin A16.results r) ⟨argEnv 0 ds, fun _ => none⟩) : PCon Try.prog 16 ds r := pcon_of_W mixed Try.func16 A16k A16c hl hw
/- estovers/grant.Serve -/
abbrev A17r1 : List AIns := [⟨(some 5), (.box (.tmp 1)), none⟩, ⟨(some 8), (.mv (.cst (.int .i64 0))), none⟩, ⟨(some 9), (.mv (.cst .nil)), none⟩, ⟨(some 10), (.mv (.cst (.int .i64 0))), none⟩]
abbrev A17r2 : List AIns := [⟨(some 18), (.mv (.tmp 0)), none⟩, ⟨(some 19), (.call (.fnc 24) [(.tmp 18)]), none⟩, ⟨(some 11), (.mv (.tmp 19)), none⟩]
abbrev A17r3 : List AIns := [⟨(some 20), (.mv (.tmp 11)), none⟩, ⟨(some 21), (.bin .neq (.tmp 20) (.cst (.int .i64 0))), none⟩]
abbrev A17r4 : List AIns := [⟨(some 22), (.mv (.tmp 11)), none⟩, ⟨(some 8), (.mv (.cst (.int .i64 0))), none⟩, ⟨(some 9), (.mv (.cst .nil)), none⟩, ⟨(some 10), (.mv (.tmp 22)), none⟩]
abbrev A17r5 : List AIns := [⟨(some 23), (.load false 1 (.tmp 5)), none⟩, ⟨(some 24), (.call (.fnc 22) [(.tmp 23)]), none⟩, ⟨(some 12), (.mv (.tmp 24)), none⟩]
abbrev A17r6 : List AIns := [⟨(some 25), (.mv (.tmp 12)), none⟩, ⟨(some 26), (.bin .neq (.tmp 25) (.cst (.int .i64 0))), none⟩]
abbrev A17r7 : List AIns := [⟨(some 27), (.mv (.tmp 12)), none⟩, ⟨(some 8), (.mv (.cst (.int .i64 0))), none⟩, ⟨(some 9), (.mv (.cst .nil)), none⟩, ⟨(some 10), (.mv (.tmp 27)), none⟩]
abbrev A17r8 : List AIns := [⟨(some 28), (.mv (.tmp 0)), none⟩, ⟨(some 29), (.mkfn 41 [] [(.tmp 5)]), none⟩, ⟨(some 30), (.call (.fnc 40) [(.tmp 28), (.tmp 29)]), none⟩]
abbrev A17r9 : List AIns := [⟨(some 8), (.mv (.cst (.int .i64 0))), none⟩, ⟨(some 9), (.mv (.cst .nil)), none⟩, ⟨(some 10), (.mv (.cst (.int .i64 6))), none⟩]
abbrev A17r10 : List AIns := [⟨(some 31), (.load false 1 (.tmp 5)), none⟩, ⟨(some 32), (.call (.fnc 42) [(.tmp 31)]), none⟩, ⟨none, (.store 1 (.tmp 5) (.tmp 32)), none⟩]
abbrev A17r11 : List AIns := [⟨(some 33), (.mv (.tmp 0)), none⟩, ⟨(some 34), (.len (.tmp 33)), none⟩, ⟨(some 35), (.mv (.cst (.int .i64 0))), none⟩]
abbrev A17r13 : List AIns := [⟨(some 36), (.bin .lss (.tmp 35) (.tmp 34)), none⟩]
abbrev A17r14 : List AIns := [⟨(some 37), (.mv (.tmp 35)), none⟩, ⟨(some 38), (.iaddr 4 (.tmp 33) (.tmp 35)), none⟩, ⟨(some 39), (.load true 4 (.tmp 38)), none⟩, ⟨(some 14), (.alloc [(.int .i64 0), (.int .i64 0), (.int .i64 0), (.int .i64 0)]), none⟩, ⟨(some 13), (.mv (.tmp 37)), none⟩, ⟨none, (.store 4 (.tmp 14) (.tmp 39)), none⟩]
abbrev A17r15 : List AIns := [⟨(some 41), (.load true 4 (.tmp 14)), none⟩, ⟨(some 42), (.load false 1 (.tmp 5)), none⟩, ⟨(some 43), (.mv (.tmp 2)), none⟩, ⟨(some 44), (.mv (.tmp 3)), none⟩, ⟨(some 45), (.call (.fnc 12) [(.tmp 41), (.tmp 42), (.tmp 43), (.tmp 44)]), none⟩, ⟨(some 40), (.mv (.tmp 45)), none⟩, ⟨(some 46), (.extract 0 (.tmp 40)), none⟩, ⟨(some 47), (.extract 1 (.tmp 40)), none⟩, ⟨(some 15), (.alloc [(.int .i64 0), (.int .i64 0), (.bool false)]), none⟩, ⟨none, (.store 3 (.tmp 15) (.tmp 46)), none⟩, ⟨(some 16), (.mv (.tmp 47)), none⟩]
abbrev A17r16 : List AIns := [⟨(some 48), (.faddr 0 (.tmp 15)), none⟩, ⟨(some 49), (.load false 1 (.tmp 48)), none⟩, ⟨(some 50), (.bin .gtr (.tmp 49) (.cst (.int .i64 0))), none⟩]
abbrev A17d17 : List AIns := [⟨(some 51), (.mv (.tmp 13)), none⟩, ⟨(some 52), (.load false 1 (.tmp 5)), none⟩, ⟨(some 8), (.mv (.tmp 51)), none⟩, ⟨(some 9), (.mv (.tmp 52)), none⟩, ⟨(some 10), (.mv (.cst (.int .i64 0))), none⟩]
abbrev A17c18 : ACode := (.seq (.dreg A17d17 [[], [], [0], [0, 1, 2], [0, 1, 2, 3]] [8, 9, 10]) .ret)
abbrev A17r19 : List AIns := [⟨(some 53), (.faddr 2 (.tmp 14)), none⟩, ⟨(some 54), (.load false 1 (.tmp 53)), none⟩, ⟨(some 55), (.faddr 3 (.tmp 14)), none⟩, ⟨(some 56), (.load false 1 (.tmp 55)), none⟩, ⟨(some 57), (.bin .add (.tmp 54) (.tmp 56)), none⟩, ⟨(some 17), (.mv (.tmp 57)), none⟩]
abbrev A17r20 : List AIns := [⟨(some 59), (.load false 1 (.tmp 5)), none⟩, ⟨(some 60), (.faddr 1 (.tmp 14)), none⟩, ⟨(some 61), (.load false 1 (.tmp 60)), none⟩, ⟨(some 62), (.mv (.tmp 17)), none⟩, ⟨(some 63), (.call (.fnc 43) [(.tmp 59), (.tmp 61), (.tmp 62)]), none⟩, ⟨(some 58), (.mv (.tmp 63)), none⟩, ⟨(some 64), (.extract 0 (.tmp 58)), none⟩, ⟨(some 65), (.extract 1 (.tmp 58)), none⟩, ⟨(some 66), (.extract 2 (.tmp 58)), none⟩, ⟨none, (.store 1 (.tmp 5) (.tmp 64)), none⟩]
abbrev A17r21 : List AIns := [⟨(some 67), (.mv (.tmp 2)), none⟩, ⟨(some 68), (.faddr 2 (.tmp 14)), none⟩, ⟨(some 69), (.load false 1 (.tmp 68)), none⟩, ⟨(some 70), (.bin .sub (.tmp 67) (.tmp 69)), none⟩, ⟨(some 71), (.mv (.tmp 3)), none⟩, ⟨(some 72), (.mv (.tmp 17)), none⟩, ⟨(some 73), (.bin .sub (.tmp 71) (.tmp 72)), none⟩, ⟨(some 2), (.mv (.tmp 70)), none⟩, ⟨(some 3), (.mv (.tmp 73)), none⟩]
abbrev A17c22 : ACode := (.seq (.reg A17r14 [0, 2, 3, 5, 13, 14, 33, 34, 35]) (.seq (.seq (.reg A17r15 [0, 2, 3, 5, 13, 14, 15, 33, 34, 35]) (.seq (.reg A17r16 [0, 2, 3, 5, 13, 14, 33, 34, 35, 50]) (.cond (.tmp 50) [5, 13] A17c18 [0, 2, 3, 5, 14, 33, 34, 35] .skip))) (.seq (.reg A17r19 [0, 2, 3, 5, 14, 17, 33, 34, 35]) (.seq (.reg A17r20 [0, 2, 3, 5, 14, 17, 33, 34, 35]) (.reg A17r21 [0, 2, 3, 5, 33, 34, 35])))))
abbrev A17r23 : List AIns := [⟨(some 74), (.bin .add (.tmp 35) (.cst (.int .i64 1))), none⟩, ⟨(some 35), (.mv (.tmp 74)), none⟩]
abbrev A17l12 : ACode := (.seq (.reg A17r13 [0, 2, 3, 5, 33, 34, 35, 36]) (.seq (.cond (.tmp 36) [0, 2, 3, 5, 33, 34, 35] .skip [0, 5] (.exit 0)) (.seq (.block 1 A17c22) (.reg A17r23 [0, 2, 3, 5, 33, 34, 35]))))
abbrev A17d24 : List AIns := [⟨(some 75), (.mv (.tmp 0)), none⟩, ⟨(some 76), (.len (.tmp 75)), none⟩, ⟨(some 77), (.load false 1 (.tmp 5)), none⟩, ⟨(some 8), (.mv (.tmp 76)), none⟩, ⟨(some 9), (.mv (.tmp 77)), none⟩, ⟨(some 10), (.mv (.cst (.int .i64 0))), none⟩]
def A17 : AFun := ⟨78, 4, [(.tmp 8), (.tmp 9), (.tmp 10)], (.seq (.reg A17r1 [0, 2, 3, 5]) (.seq (.seq (.reg A17r2 [0, 2, 3, 5, 11]) (.seq (.reg A17r3 [0, 2, 3, 5, 11, 21]) (.cond (.tmp 21) [11] (.seq (.reg A17r4 [8, 9, 10]) .ret) [0, 2, 3, 5] .skip))) (.seq (.seq (.reg A17r5 [0, 2, 3, 5, 12]) (.seq (.reg A17r6 [0, 2, 3, 5, 12, 26]) (.cond (.tmp 26) [12] (.seq (.reg A17r7 [8, 9, 10]) .ret) [0, 2, 3, 5] .skip))) (.seq (.seq (.reg A17r8 [0, 2, 3, 5, 30]) (.cond (.tmp 30) [] (.seq (.reg A17r9 [8, 9, 10]) .ret) [0, 2, 3, 5] .skip)) (.seq (.reg A17r10 [0, 2, 3, 5]) (.seq (.seq (.reg A17r11 [0, 2, 3, 5, 33, 34, 35]) (.block 0 (.loop A17l12))) (.seq (.dreg A17d24 [[], [0], [], [0, 1], [0, 1, 2, 3], [0, 1, 2, 3, 4]] [8, 9, 10]) .ret)))))))⟩
theorem A17c : compF Try.prog Try.f17 = some A17 := by kernel_rfl
theorem A17k : Callable Try.prog 17 := fun a w => Try.call17 a w
theorem A17p {ds : List D} {r : D} (hl : ds.length ≤ A17.nt) (hw : W Try.prog A17.code (Fin A17.results r) ⟨argEnv 0 ds, fun _ => none⟩) : PCon Try.prog 17 ds r := pcon_of_W mixed Try.func17 A17k A17c hl hw
/- estovers/estoversref21.Serve -/
abbrev A18r1 : List AIns := [⟨(some 8), (.mv (.cst (.int .i64 0))), none⟩, ⟨(some 9), (.mv (.cst .nil)), none⟩, ⟨(some 10), (.mv (.cst (.int .i64 0))), none⟩]
abbrev A18r2 : List AIns := [⟨(some 17), (.mv (.tmp 0)), none⟩, ⟨(some 18), (.call (.fnc 25) [(.tmp 17)]), none⟩, ⟨(some 11), (.mv (.tmp 18)), none⟩]
abbrev A18r3 : List AIns := [⟨(some 19), (.mv (.tmp 11)), none⟩, ⟨(some 20), (.bin .neq (.tmp 19) (.cst (.int .i64 0))), none⟩]
abbrev A18r4 : List AIns := [⟨(some 21), (.mv (.tmp 11)), none⟩, ⟨(some 8), (.mv (.cst (.int .i64 0))), none⟩, ⟨(some 9), (.mv (.cst .nil)), none⟩, ⟨(some 10), (.mv (.tmp 21)), none⟩]
abbrev A18r5 : List AIns := [⟨(some 22), (.mv (.tmp 1)), none⟩, ⟨(some 23), (.call (.fnc 37) [(.tmp 22)]), none⟩, ⟨(some 11), (.mv (.tmp 23)), none⟩]
abbrev A18r6 : List AIns := [⟨(some 24), (.mv (.tmp 11)), none⟩, ⟨(some 25), (.bin .neq (.tmp 24) (.cst (.int .i64 0))), none⟩]
abbrev A18r7 : List AIns := [⟨(some 26), (.mv (.tmp 11)), none⟩, ⟨(some 8), (.mv (.cst (.int .i64 0))), none⟩, ⟨(some 9), (.mv (.cst .nil)), none⟩, ⟨(some 10), (.mv (.tmp 26)), none⟩]
abbrev A18r8 : List AIns := [⟨(some 12), (.mv (.cst (.int .i64 0))), none⟩]
abbrev A18r10 : List AIns := [⟨(some 27), (.mv (.tmp 12)), none⟩, ⟨(some 28), (.mv (.tmp 0)), none⟩, ⟨(some 29), (.len (.tmp 28)), none⟩, ⟨(some 30), (.bin .lss (.tmp 27) (.tmp 29)), none⟩]
abbrev A18r11 : List AIns := [⟨(some 33), (.mv (.tmp 0)), none⟩, ⟨(some 34), (.mv (.tmp 12)), none⟩, ⟨(some 35), (.iaddr 4 (.tmp 33) (.tmp 34)), none⟩, ⟨(some 36), (.faddr 1 (.tmp 35)), none⟩, ⟨(some 37), (.load false 1 (.tmp 36)), none⟩, ⟨(some 38), (.mv (.tmp 1)), none⟩, ⟨(some 39), (.len (.tmp 38)), none⟩, ⟨(some 40), (.bin .geq (.tmp 37) (.tmp 39)), none⟩]
abbrev A18r12 : List AIns := [⟨(some 8), (.mv (.cst (.int .i64 0))), none⟩, ⟨(some 9), (.mv (.cst .nil)), none⟩, ⟨(some 10), (.mv (.cst (.int .i64 6))), none⟩]
abbrev A18c13 : ACode := (.seq (.reg A18r11 [0, 1, 2, 3, 12, 40]) (.cond (.tmp 40) [] (.seq (.reg A18r12 [8, 9, 10]) .ret) [0, 1, 2, 3, 12] .skip))
abbrev A18r14 : List AIns := [⟨(some 31), (.mv (.tmp 12)), none⟩, ⟨(some 32), (.bin .add (.tmp 31) (.cst (.int .i64 1))), none⟩, ⟨(some 12), (.mv (.tmp 32)), none⟩]
abbrev A18l9 : ACode := (.seq (.seq (.reg A18r10 [0, 1, 2, 3, 12, 30]) (.cond (.tmp 30) [0, 1, 2, 3, 12] .skip [0, 1, 2, 3] (.exit 0))) (.seq (.block 1 A18c13) (.reg A18r14 [0, 1, 2, 3, 12])))
abbrev A18r15 : List AIns := [⟨(some 41), (.mv (.tmp 1)), none⟩, ⟨(some 42), (.call (.fnc 44) [(.tmp 41)]), none⟩, ⟨(some 13), (.mv (.tmp 42)), none⟩]
abbrev A18r16 : List AIns := [⟨(some 14), (.mv (.cst (.int .i64 0))), none⟩]
abbrev A18r18 : List AIns := [⟨(some 43), (.mv (.tmp 14)), none⟩, ⟨(some 44), (.mv (.tmp 0)), none⟩, ⟨(some 45), (.len (.tmp 44)), none⟩, ⟨(some 46), (.bin .lss (.tmp 43) (.tmp 45)), none⟩]
abbrev A18r19 : List AIns := [⟨(some 50), (.mv (.tmp 0)), none⟩, ⟨(some 51), (.mv (.tmp 14)), none⟩, ⟨(some 52), (.iaddr 4 (.tmp 50) (.tmp 51)), none⟩, ⟨(some 53), (.load true 4 (.tmp 52)), none⟩, ⟨(some 54), (.mv (.tmp 13)), none⟩, ⟨(some 55), (.mv (.tmp 2)), none⟩, ⟨(some 56), (.mv (.tmp 3)), none⟩, ⟨(some 57), (.call (.fnc 13) [(.tmp 53), (.tmp 54), (.tmp 55), (.tmp 56)]), none⟩, ⟨(some 49), (.mv (.tmp 57)), none⟩, ⟨(some 58), (.extract 0 (.tmp 49)), none⟩, ⟨(some 59), (.extract 1 (.tmp 49)), none⟩, ⟨(some 15), (.alloc [(.int .i64 0), (.int .i64 0), (.bool false)]), none⟩, ⟨none, (.store 3 (.tmp 15) (.tmp 58)), none⟩, ⟨(some 16), (.mv (.tmp 59)), none⟩]
abbrev A18r20 : List AIns := [⟨(some 60), (.faddr 0 (.tmp 15)), none⟩, ⟨(some 61), (.load false 1 (.tmp 60)), none⟩, ⟨(some 62), (.bin .neq (.tmp 61) (.cst (.int .i64 0))), none⟩]
abbrev A18r21 : List AIns := [⟨(some 63), (.mv (.tmp 14)), none⟩, ⟨(some 64), (.mv (.tmp 13)), none⟩, ⟨(some 8), (.mv (.tmp 63)), none⟩, ⟨(some 9), (.mv (.tmp 64)), none⟩, ⟨(some 10), (.mv (.cst (.int .i64 0))), none⟩]
abbrev A18d22 : List AIns := [⟨(some 66), (.mv (.tmp 13)), none⟩, ⟨(some 67), (.mv (.tmp 0)), none⟩, ⟨(some 68), (.mv (.tmp 14)), none⟩, ⟨(some 69), (.iaddr 4 (.tmp 67) (.tmp 68)), none⟩, ⟨(some 70), (.faddr 1 (.tmp 69)), none⟩, ⟨(some 71), (.load false 1 (.tmp 70)), none⟩, ⟨(some 72), (.mv (.tmp 0)), none⟩, ⟨(some 73), (.mv (.tmp 14)), none⟩, ⟨(some 74), (.iaddr 4 (.tmp 72) (.tmp 73)), none⟩, ⟨(some 75), (.load true 4 (.tmp 74)), none⟩, ⟨(some 76), (.call (.fnc 39) [(.tmp 75)]), none⟩, ⟨(some 77), (.call (.fnc 45) [(.tmp 66), (.tmp 71), (.tmp 76)]), none⟩, ⟨(some 65), (.mv (.tmp 77)), none⟩, ⟨(some 78), (.extract 0 (.tmp 65)), none⟩, ⟨(some 79), (.extract 1 (.tmp 65)), none⟩, ⟨(some 80), (.extract 2 (.tmp 65)), none⟩, ⟨(some 13), (.mv (.tmp 78)), none⟩]
abbrev A18d22x : List AIns := [⟨(some 66), (.mv (.tmp 13)), none⟩, ⟨(some 67), (.mv (.tmp 0)), none⟩, ⟨(some 68), (.mv (.tmp 14)), none⟩, ⟨(some 69), (.iaddr 4 (.tmp 67) (.tmp 68)), none⟩, ⟨(some 70), (.faddr 1 (.tmp 69)), none⟩, ⟨(some 71), (.load false 1 (.tmp 70)), none⟩, ⟨(some 72), (.mv (.tmp 0)), none⟩, ⟨(some 73), (.mv (.tmp 14)), none⟩, ⟨(some 74), (.iaddr 4 (.tmp 72) (.tmp 73)), none⟩, ⟨(some 75), (.load true 4 (.tmp 74)), none⟩, ⟨(some 76), (.call (.fnc 39) [(.tmp 75)]), none⟩]
abbrev A18d22m : List AIns := [⟨(some 65), (.mv (.tmp 77)), none⟩, ⟨(some 78), (.extract 0 (.tmp 65)), none⟩, ⟨(some 79), (.extract 1 (.tmp 65)), none⟩, ⟨(some 80), (.extract 2 (.tmp 65)), none⟩, ⟨(some 13), (.mv (.tmp 78)), none⟩]
abbrev A18d22s : List AIns := []
abbrev A18d23 : List AIns := [⟨(some 81), (.mv (.tmp 2)), none⟩, ⟨(some 82), (.mv (.tmp 0)), none⟩, ⟨(some 83), (.mv (.tmp 14)), none⟩, ⟨(some 84), (.iaddr 4 (.tmp 82) (.tmp 83)), none⟩, ⟨(some 85), (.faddr 2 (.tmp 84)), none⟩, ⟨(some 86), (.load false 1 (.tmp 85)), none⟩, ⟨(some 87), (.bin .sub (.tmp 81) (.tmp 86)), none⟩, ⟨(some 88), (.mv (.tmp 3)), none⟩, ⟨(some 89), (.mv (.tmp 0)), none⟩, ⟨(some 90), (.mv (.tmp 14)), none⟩, ⟨(some 91), (.iaddr 4 (.tmp 89) (.tmp 90)), none⟩, ⟨(some 92), (.load true 4 (.tmp 91)), none⟩, ⟨(some 93), (.call (.fnc 39) [(.tmp 92)]), none⟩, ⟨(some 94), (.bin .sub (.tmp 88) (.tmp 93)), none⟩, ⟨(some 2), (.mv (.tmp 87)), none⟩, ⟨(some 3), (.mv (.tmp 94)), none⟩]
abbrev A18c24 : ACode := (.seq (.reg A18r19 [0, 2, 3, 13, 14, 15]) (.seq (.seq (.reg A18r20 [0, 2, 3, 13, 14, 62]) (.cond (.tmp 62) [13, 14] (.seq (.reg A18r21 [8, 9, 10]) .ret) [0, 2, 3, 13, 14] .skip)) (.seq (.dreg A18d22 [[], [], [], [1, 2], [1, 2, 3], [1, 2, 3, 4], [], [], [6, 7], [6, 7, 8], [6, 7, 8, 9], [0, 1, 2, 3, 4, 5, 6, 7, 8, 9, 10], [0, 1, 2, 3, 4, 5, 6, 7, 8, 9, 10, 11], [0, 1, 2, 3, 4, 5, 6, 7, 8, 9, 10, 11, 12], [0, 1, 2, 3, 4, 5, 6, 7, 8, 9, 10, 11, 12], [0, 1, 2, 3, 4, 5, 6, 7, 8, 9, 10, 11, 12], [0, 1, 2, 3, 4, 5, 6, 7, 8, 9, 10, 11, 12, 13]] [0, 2, 3, 13, 14]) (.dreg A18d23 [[], [], [], [1, 2], [1, 2, 3], [1, 2, 3, 4], [0, 1, 2, 3, 4, 5], [], [], [], [8, 9], [8, 9, 10], [8, 9, 10, 11], [7, 8, 9, 10, 11, 12], [0, 1, 2, 3, 4, 5, 6, 8, 9, 10, 11, 12], [0, 1, 2, 3, 4, 5, 6, 7, 8, 9, 10, 11, 12, 13, 14]] [0, 2, 3, 13, 14]))))
abbrev A18r25 : List AIns := [⟨(some 47), (.mv (.tmp 14)), none⟩, ⟨(some 48), (.bin .add (.tmp 47) (.cst (.int .i64 1))), none⟩, ⟨(some 14), (.mv (.tmp 48)), none⟩]
abbrev A18l17 : ACode := (.seq (.seq (.reg A18r18 [0, 2, 3, 13, 14, 46]) (.cond (.tmp 46) [0, 2, 3, 13, 14] .skip [0, 13] (.exit 2))) (.seq (.block 3 A18c24) (.reg A18r25 [0, 2, 3, 13, 14])))
abbrev A18r26 : List AIns := [⟨(some 95), (.mv (.tmp 0)), none⟩, ⟨(some 96), (.len (.tmp 95)), none⟩, ⟨(some 97), (.mv (.tmp 13)), none⟩, ⟨(some 8), (.mv (.tmp 96)), none⟩, ⟨(some 9), (.mv (.tmp 97)), none⟩, ⟨(some 10), (.mv (.cst (.int .i64 0))), none⟩]
def A18 : AFun := ⟨98, 4, [(.tmp 8), (.tmp 9), (.tmp 10)], (.seq (.reg A18r1 [0, 1, 2, 3]) (.seq (.reg A18r2 [0, 1, 2, 3, 11]) (.seq (.seq (.reg A18r3 [0, 1, 2, 3, 11, 20]) (.cond (.tmp 20) [11] (.seq (.reg A18r4 [8, 9, 10]) .ret) [0, 1, 2, 3] .skip)) (.seq (.reg A18r5 [0, 1, 2, 3, 11]) (.seq (.seq (.reg A18r6 [0, 1, 2, 3, 11, 25]) (.cond (.tmp 25) [11] (.seq (.reg A18r7 [8, 9, 10]) .ret) [0, 1, 2, 3] .skip)) (.seq (.seq (.reg A18r8 [0, 1, 2, 3, 12]) (.block 0 (.loop A18l9))) (.seq (.reg A18r15 [0, 2, 3, 13]) (.seq (.seq (.reg A18r16 [0, 2, 3, 13, 14]) (.block 2 (.loop A18l17))) (.seq (.reg A18r26 [8, 9, 10]) .ret)))))))))⟩
theorem A18c : compF Try.prog Try.f18 = some A18 := by kernel_rfl
theorem A18k : Callable Try.prog 18 := fun a w => Try.call18 a w
theorem A18p {ds : List D} {r : D} (hl : ds.length ≤ A18.nt) (hw : W Try.prog A18.code (Fin A18.results r) ⟨argEnv 0 ds, fun _ => none⟩) : PCon Try.prog 18 ds r := pcon_of_W mixed Try.func18 A18k A18c hl hw
/- estovers/estoversref19.Same -/
abbrev A19r1 : List AIns := [⟨(some 4), (.mv (.cst (.bool false))), none⟩]
abbrev A19r2 : List AIns := [⟨(some 6), (.mv (.tmp 0)), none⟩, ⟨(some 7), (.len (.tmp 6)), none⟩, ⟨(some 8), (.mv (.tmp 1)), none⟩, ⟨(some 9), (.len (.tmp 8)), none⟩, ⟨(some 10), (.bin .neq (.tmp 7) (.tmp 9)), none⟩]
abbrev A19r3 : List AIns := [⟨(some 4), (.mv (.cst (.bool false))), none⟩]
abbrev A19r4 : List AIns := [⟨(some 5), (.mv (.cst (.int .i64 0))), none⟩]
abbrev A19r6 : List AIns := [⟨(some 11), (.mv (.tmp 5)), none⟩, ⟨(some 12), (.mv (.tmp 0)), none⟩, ⟨(some 13), (.len (.tmp 12)), none⟩, ⟨(some 14), (.bin .lss (.tmp 11) (.tmp 13)), none⟩]
abbrev A19d7 : List AIns := [⟨(some 17), (.mv (.tmp 0)), none⟩, ⟨(some 18), (.mv (.tmp 5)), none⟩, ⟨(some 19), (.iaddr 5 (.tmp 17) (.tmp 18)), none⟩, ⟨(some 20), (.load true 5 (.tmp 19)), none⟩, ⟨(some 21), (.mv (.tmp 1)), none⟩, ⟨(some 22), (.mv (.tmp 5)), none⟩, ⟨(some 23), (.iaddr 5 (.tmp 21) (.tmp 22)), none⟩, ⟨(some 24), (.load true 5 (.tmp 23)), none⟩, ⟨(some 25), (.eqA true [1, 1, 1, 1, 1] (.tmp 20) (.tmp 24)), none⟩]
abbrev A19r8 : List AIns := [⟨(some 4), (.mv (.cst (.bool false))), none⟩]
abbrev A19c9 : ACode := (.seq (.dreg A19d7 [[], [], [0, 1], [0, 1, 2], [], [], [4, 5], [4, 5, 6], [0, 1, 2, 3, 4, 5, 6, 7]] [0, 1, 5, 25]) (.cond (.tmp 25) [] (.seq (.reg A19r8 [4]) .ret) [0, 1, 5] .skip))
abbrev A19r10 : List AIns := [⟨(some 15), (.mv (.tmp 5)), none⟩, ⟨(some 16), (.bin .add (.tmp 15) (.cst (.int .i64 1))), none⟩, ⟨(some 5), (.mv (.tmp 16)), none⟩]
abbrev A19l5 : ACode := (.seq (.seq (.reg A19r6 [0, 1, 5, 14]) (.cond (.tmp 14) [0, 1, 5] .skip [] (.exit 0))) (.seq (.block 1 A19c9) (.reg A19r10 [0, 1, 5])))
abbrev A19r11 : List AIns := [⟨(some 4), (.mv (.cst (.bool true))), none⟩]
def A19 : AFun := ⟨26, 2, [(.tmp 4)], (.seq (.reg A19r1 [0, 1]) (.seq (.seq (.reg A19r2 [0, 1, 10]) (.cond (.tmp 10) [] (.seq (.reg A19r3 [4]) .ret) [0, 1] .skip)) (.seq (.seq (.reg A19r4 [0, 1, 5]) (.block 0 (.loop A19l5))) (.seq (.reg A19r11 [4]) .ret))))⟩
theorem A19c : compF Try.prog Try.f19 = some A19 := by kernel_rfl
theorem A19k : Callable Try.prog 19 := fun a w => Try.call19 a w
theorem A19p {ds : List D} {r : D} (hl : ds.length ≤ A19.nt) (hw : W Try.prog A19.code (Fin A19.results r) ⟨argEnv 0 ds, fun _ => none⟩) : PCon Try.prog 19 ds r := pcon_of_W mixed Try.func19 A19k A19c hl hw
/- estovers/estoverslaw21.valid -/
/- estovers/estoverslaw21.served -/
/- estovers/accounts.Check -/
abbrev A22r1 : List AIns := [⟨(some 2), (.mv (.cst (.int .i64 0))), none⟩]
abbrev A22r2 : List AIns := [⟨(some 4), (.mv (.tmp 0)), none⟩, ⟨(some 5), (.len (.tmp 4)), none⟩, ⟨(some 6), (.bin .lss (.tmp 5) (.cst (.int .i64 1))), none⟩, ⟨(some 7), (.mv (.tmp 6)), none⟩, ⟨(some 8), (.mv (.tmp 0)), (some (7, false))⟩, ⟨(some 9), (.len (.tmp 8)), (some (7, false))⟩, ⟨(some 10), (.bin .gtr (.tmp 9) (.cst (.int .i64 8))), (some (7, false))⟩, ⟨(some 11), (.pick (.tmp 7) (.cst (.bool true)) (.tmp 10)), none⟩, ⟨(some 3), (.mv (.tmp 11)), none⟩]
abbrev A22r3 : List AIns := [⟨(some 2), (.mv (.cst (.int .i64 9))), none⟩]
abbrev A22r4 : List AIns := [⟨(some 13), (.mv (.tmp 0)), none⟩, ⟨(some 14), (.call (.fnc 46) [(.tmp 13)]), none⟩, ⟨(some 15), (.un .not (.tmp 14)), none⟩, ⟨(some 12), (.mv (.tmp 15)), none⟩]
abbrev A22r5 : List AIns := [⟨(some 2), (.mv (.cst (.int .i64 1))), none⟩]
abbrev A22r6 : List AIns := [⟨(some 17), (.mv (.tmp 0)), none⟩, ⟨(some 18), (.call (.fnc 47) [(.tmp 17)]), none⟩, ⟨(some 19), (.un .not (.tmp 18)), none⟩, ⟨(some 16), (.mv (.tmp 19)), none⟩]
abbrev A22r7 : List AIns := [⟨(some 2), (.mv (.cst (.int .i64 2))), none⟩]
abbrev A22r8 : List AIns := [⟨(some 21), (.mv (.tmp 0)), none⟩, ⟨(some 22), (.call (.fnc 48) [(.tmp 21), (.fnc 49)]), none⟩, ⟨(some 20), (.mv (.tmp 22)), none⟩]
abbrev A22r9 : List AIns := [⟨(some 2), (.mv (.cst (.int .i64 17))), none⟩]
abbrev A22r10 : List AIns := [⟨(some 24), (.mv (.tmp 0)), none⟩, ⟨(some 25), (.call (.fnc 51) [(.tmp 24)]), none⟩, ⟨(some 26), (.call (.fnc 50) [(.tmp 25)]), none⟩, ⟨(some 27), (.bin .lss (.tmp 26) (.cst (.int .i64 0))), none⟩, ⟨(some 23), (.mv (.tmp 27)), none⟩]
abbrev A22r11 : List AIns := [⟨(some 2), (.mv (.cst (.int .i64 11))), none⟩]
abbrev A22c12 : ACode := (.seq (.reg A22r10 [23]) (.cond (.tmp 23) [] (.seq (.reg A22r11 [2]) .ret) [] .skip))
abbrev A22c13 : ACode := (.seq (.reg A22r8 [0, 20]) (.cond (.tmp 20) [] (.seq (.reg A22r9 [2]) .ret) [0] A22c12))
abbrev A22c14 : ACode := (.seq (.reg A22r6 [0, 16]) (.cond (.tmp 16) [] (.seq (.reg A22r7 [2]) .ret) [0] A22c13))
abbrev A22c15 : ACode := (.seq (.reg A22r4 [0, 12]) (.cond (.tmp 12) [] (.seq (.reg A22r5 [2]) .ret) [0] A22c14))
abbrev A22c16 : ACode := (.seq (.reg A22r2 [0, 3]) (.cond (.tmp 3) [] (.seq (.reg A22r3 [2]) .ret) [0] A22c15))
abbrev A22r17 : List AIns := [⟨(some 2), (.mv (.cst (.int .i64 0))), none⟩]
def A22 : AFun := ⟨28, 1, [(.tmp 2)], (.seq (.reg A22r1 [0]) (.seq (.block 0 A22c16) (.seq (.reg A22r17 [2]) .ret)))⟩
theorem A22c : compF Try.prog Try.f22 = some A22 := by kernel_rfl
theorem A22k : Callable Try.prog 22 := fun a w => Try.call22 a w
theorem A22p {ds : List D} {r : D} (hl : ds.length ≤ A22.nt) (hw : W Try.prog A22.code (Fin A22.results r) ⟨argEnv 0 ds, fun _ => none⟩) : PCon Try.prog 22 ds r := pcon_of_W mixed Try.func22 A22k A22c hl hw
/- estovers/accounts.Total -/
/- estovers/grant.Check -/
abbrev A24r1 : List AIns := [⟨(some 2), (.mv (.cst (.int .i64 0))), none⟩]
abbrev A24r2 : List AIns := [⟨(some 7), (.mv (.tmp 0)), none⟩, ⟨(some 8), (.len (.tmp 7)), none⟩, ⟨(some 9), (.mv (.cst (.int .i64 0))), none⟩]
abbrev A24r4 : List AIns := [⟨(some 10), (.bin .lss (.tmp 9) (.tmp 8)), none⟩]
abbrev A24r5 : List AIns := [⟨(some 11), (.iaddr 4 (.tmp 7) (.tmp 9)), none⟩, ⟨(some 12), (.load true 4 (.tmp 11)), none⟩, ⟨(some 4), (.alloc [(.int .i64 0), (.int .i64 0), (.int .i64 0), (.int .i64 0)]), none⟩, ⟨none, (.store 4 (.tmp 4) (.tmp 12)), none⟩]
abbrev A24r6 : List AIns := [⟨(some 13), (.load true 4 (.tmp 4)), none⟩, ⟨(some 14), (.call (.fnc 34) [(.tmp 13)]), none⟩, ⟨(some 15), (.un .not (.tmp 14)), none⟩]
abbrev A24r7 : List AIns := [⟨(some 2), (.mv (.cst (.int .i64 2))), none⟩]
abbrev A24c8 : ACode := (.seq (.reg A24r5 [0, 4, 7, 8, 9]) (.seq (.reg A24r6 [0, 7, 8, 9, 15]) (.cond (.tmp 15) [] (.seq (.reg A24r7 [2]) .ret) [0, 7, 8, 9] .skip)))
abbrev A24r9 : List AIns := [⟨(some 16), (.bin .add (.tmp 9) (.cst (.int .i64 1))), none⟩, ⟨(some 9), (.mv (.tmp 16)), none⟩]
abbrev A24l3 : ACode := (.seq (.reg A24r4 [0, 7, 8, 9, 10]) (.seq (.cond (.tmp 10) [0, 7, 8, 9] .skip [0] (.exit 0)) (.seq (.block 1 A24c8) (.reg A24r9 [0, 7, 8, 9]))))
abbrev A24r10 : List AIns := [⟨(some 17), (.mv (.tmp 0)), none⟩, ⟨(some 18), (.len (.tmp 17)), none⟩, ⟨(some 19), (.mv (.cst (.int .i64 0))), none⟩]
abbrev A24r12 : List AIns := [⟨(some 20), (.bin .lss (.tmp 19) (.tmp 18)), none⟩]
abbrev A24r13 : List AIns := [⟨(some 21), (.mv (.tmp 19)), none⟩, ⟨(some 22), (.iaddr 4 (.tmp 17) (.tmp 19)), none⟩, ⟨(some 23), (.load true 4 (.tmp 22)), none⟩, ⟨(some 6), (.alloc [(.int .i64 0), (.int .i64 0), (.int .i64 0), (.int .i64 0)]), none⟩, ⟨(some 5), (.mv (.tmp 21)), none⟩, ⟨none, (.store 4 (.tmp 6) (.tmp 23)), none⟩]
abbrev A24r14 : List AIns := [⟨(some 24), (.mv (.tmp 0)), none⟩, ⟨(some 25), (.faddr 0 (.tmp 6)), none⟩, ⟨(some 26), (.load false 1 (.tmp 25)), none⟩, ⟨(some 27), (.call (.fnc 52) [(.tmp 24), (.tmp 26)]), none⟩, ⟨(some 28), (.mv (.tmp 5)), none⟩, ⟨(some 29), (.bin .neq (.tmp 27) (.tmp 28)), none⟩]
abbrev A24r15 : List AIns := [⟨(some 2), (.mv (.cst (.int .i64 7))), none⟩]
abbrev A24c16 : ACode := (.seq (.reg A24r13 [0, 5, 6, 17, 18, 19]) (.seq (.reg A24r14 [0, 17, 18, 19, 29]) (.cond (.tmp 29) [] (.seq (.reg A24r15 [2]) .ret) [0, 17, 18, 19] .skip)))
abbrev A24r17 : List AIns := [⟨(some 30), (.bin .add (.tmp 19) (.cst (.int .i64 1))), none⟩, ⟨(some 19), (.mv (.tmp 30)), none⟩]
abbrev A24l11 : ACode := (.seq (.reg A24r12 [0, 17, 18, 19, 20]) (.seq (.cond (.tmp 20) [0, 17, 18, 19] .skip [] (.exit 2)) (.seq (.block 3 A24c16) (.reg A24r17 [0, 17, 18, 19]))))
abbrev A24r18 : List AIns := [⟨(some 2), (.mv (.cst (.int .i64 0))), none⟩]
def A24 : AFun := ⟨31, 1, [(.tmp 2)], (.seq (.reg A24r1 [0]) (.seq (.seq (.reg A24r2 [0, 7, 8, 9]) (.block 0 (.loop A24l3))) (.seq (.seq (.reg A24r10 [0, 17, 18, 19]) (.block 2 (.loop A24l11))) (.seq (.reg A24r18 [2]) .ret))))⟩
theorem A24c : compF Try.prog Try.f24 = some A24 := by kernel_rfl
theorem A24k : Callable Try.prog 24 := fun a w => Try.call24 a w
theorem A24p {ds : List D} {r : D} (hl : ds.length ≤ A24.nt) (hw : W Try.prog A24.code (Fin A24.results r) ⟨argEnv 0 ds, fun _ => none⟩) : PCon Try.prog 24 ds r := pcon_of_W mixed Try.func24 A24k A24c hl hw
/- estovers/estoversref21.Check -/
abbrev A25r1 : List AIns := [⟨(some 2), (.mv (.cst (.int .i64 0))), none⟩]
abbrev A25r2 : List AIns := [⟨(some 3), (.mv (.cst (.int .i64 0))), none⟩]
abbrev A25r4 : List AIns := [⟨(some 5), (.mv (.tmp 3)), none⟩, ⟨(some 6), (.mv (.tmp 0)), none⟩, ⟨(some 7), (.len (.tmp 6)), none⟩, ⟨(some 8), (.bin .lss (.tmp 5) (.tmp 7)), none⟩]
abbrev A25r5 : List AIns := [⟨(some 11), (.mv (.tmp 0)), none⟩, ⟨(some 12), (.mv (.tmp 3)), none⟩, ⟨(some 13), (.iaddr 4 (.tmp 11) (.tmp 12)), none⟩, ⟨(some 14), (.load true 4 (.tmp 13)), none⟩, ⟨(some 15), (.call (.fnc 36) [(.tmp 14)]), none⟩, ⟨(some 16), (.un .not (.tmp 15)), none⟩]
abbrev A25r6 : List AIns := [⟨(some 2), (.mv (.cst (.int .i64 2))), none⟩]
abbrev A25c7 : ACode := (.seq (.reg A25r5 [0, 3, 16]) (.cond (.tmp 16) [] (.seq (.reg A25r6 [2]) .ret) [0, 3] .skip))
abbrev A25r8 : List AIns := [⟨(some 9), (.mv (.tmp 3)), none⟩, ⟨(some 10), (.bin .add (.tmp 9) (.cst (.int .i64 1))), none⟩, ⟨(some 3), (.mv (.tmp 10)), none⟩]
abbrev A25l3 : ACode := (.seq (.seq (.reg A25r4 [0, 3, 8]) (.cond (.tmp 8) [0, 3] .skip [0] (.exit 0))) (.seq (.block 1 A25c7) (.reg A25r8 [0, 3])))
abbrev A25r9 : List AIns := [⟨(some 4), (.mv (.cst (.int .i64 0))), none⟩]
abbrev A25r11 : List AIns := [⟨(some 17), (.mv (.tmp 4)), none⟩, ⟨(some 18), (.mv (.tmp 0)), none⟩, ⟨(some 19), (.len (.tmp 18)), none⟩, ⟨(some 20), (.bin .lss (.tmp 17) (.tmp 19)), none⟩]
abbrev A25r12 : List AIns := [⟨(some 23), (.mv (.tmp 0)), none⟩, ⟨(some 24), (.mv (.tmp 0)), none⟩, ⟨(some 25), (.mv (.tmp 4)), none⟩, ⟨(some 26), (.iaddr 4 (.tmp 24) (.tmp 25)), none⟩, ⟨(some 27), (.faddr 0 (.tmp 26)), none⟩, ⟨(some 28), (.load false 1 (.tmp 27)), none⟩, ⟨(some 29), (.call (.fnc 53) [(.tmp 23), (.tmp 28)]), none⟩, ⟨(some 30), (.mv (.tmp 4)), none⟩, ⟨(some 31), (.bin .lss (.tmp 29) (.tmp 30)), none⟩]
abbrev A25r13 : List AIns := [⟨(some 2), (.mv (.cst (.int .i64 7))), none⟩]
abbrev A25c14 : ACode := (.seq (.reg A25r12 [0, 4, 31]) (.cond (.tmp 31) [] (.seq (.reg A25r13 [2]) .ret) [0, 4] .skip))
abbrev A25r15 : List AIns := [⟨(some 21), (.mv (.tmp 4)), none⟩, ⟨(some 22), (.bin .add (.tmp 21) (.cst (.int .i64 1))), none⟩, ⟨(some 4), (.mv (.tmp 22)), none⟩]
abbrev A25l10 : ACode := (.seq (.seq (.reg A25r11 [0, 4, 20]) (.cond (.tmp 20) [0, 4] .skip [] (.exit 2))) (.seq (.block 3 A25c14) (.reg A25r15 [0, 4])))
abbrev A25r16 : List AIns := [⟨(some 2), (.mv (.cst (.int .i64 0))), none⟩]
def A25 : AFun := ⟨32, 1, [(.tmp 2)], (.seq (.reg A25r1 [0]) (.seq (.seq (.reg A25r2 [0, 3]) (.block 0 (.loop A25l3))) (.seq (.seq (.reg A25r9 [0, 4]) (.block 2 (.loop A25l10))) (.seq (.reg A25r16 [2]) .ret))))⟩
theorem A25c : compF Try.prog Try.f25 = some A25 := by kernel_rfl
theorem A25k : Callable Try.prog 25 := fun a w => Try.call25 a w
theorem A25p {ds : List D} {r : D} (hl : ds.length ≤ A25.nt) (hw : W Try.prog A25.code (Fin A25.results r) ⟨argEnv 0 ds, fun _ => none⟩) : PCon Try.prog 25 ds r := pcon_of_W mixed Try.func25 A25k A25c hl hw
/- estovers/grant.Push -/
abbrev A26r1 : List AIns := [⟨(some 3), (.box (.tmp 1)), none⟩, ⟨(some 4), (.mv (.cst .nil)), none⟩, ⟨(some 5), (.mv (.cst (.int .i64 0))), none⟩]
abbrev A26r2 : List AIns := [⟨(some 7), (.mv (.tmp 0)), none⟩, ⟨(some 8), (.call (.fnc 24) [(.tmp 7)]), none⟩, ⟨(some 6), (.mv (.tmp 8)), none⟩]
abbrev A26r3 : List AIns := [⟨(some 10), (.mv (.tmp 6)), none⟩, ⟨(some 11), (.bin .neq (.tmp 10) (.cst (.int .i64 0))), none⟩, ⟨(some 9), (.mv (.tmp 11)), none⟩]
abbrev A26r4 : List AIns := [⟨(some 12), (.mv (.tmp 6)), none⟩, ⟨(some 4), (.mv (.cst .nil)), none⟩, ⟨(some 5), (.mv (.tmp 12)), none⟩]
abbrev A26r5 : List AIns := [⟨(some 14), (.load true 4 (.tmp 3)), none⟩, ⟨(some 15), (.call (.fnc 34) [(.tmp 14)]), none⟩, ⟨(some 16), (.un .not (.tmp 15)), none⟩, ⟨(some 13), (.mv (.tmp 16)), none⟩]
abbrev A26r6 : List AIns := [⟨(some 4), (.mv (.cst .nil)), none⟩, ⟨(some 5), (.mv (.cst (.int .i64 2))), none⟩]
abbrev A26r7 : List AIns := [⟨(some 18), (.mv (.tmp 0)), none⟩, ⟨(some 19), (.faddr 0 (.tmp 3)), none⟩, ⟨(some 20), (.load false 1 (.tmp 19)), none⟩, ⟨(some 21), (.call (.fnc 52) [(.tmp 18), (.tmp 20)]), none⟩, ⟨(some 22), (.bin .geq (.tmp 21) (.cst (.int .i64 0))), none⟩, ⟨(some 17), (.mv (.tmp 22)), none⟩]
abbrev A26r8 : List AIns := [⟨(some 4), (.mv (.cst .nil)), none⟩, ⟨(some 5), (.mv (.cst (.int .i64 7))), none⟩]
abbrev A26c9 : ACode := (.seq (.reg A26r7 [0, 3, 17]) (.cond (.tmp 17) [] (.seq (.reg A26r8 [4, 5]) .ret) [0, 3] .skip))
abbrev A26c10 : ACode := (.seq (.reg A26r5 [0, 3, 13]) (.cond (.tmp 13) [] (.seq (.reg A26r6 [4, 5]) .ret) [0, 3] A26c9))
abbrev A26c11 : ACode := (.seq (.reg A26r3 [0, 3, 6, 9]) (.cond (.tmp 9) [6] (.seq (.reg A26r4 [4, 5]) .ret) [0, 3] A26c10))
abbrev A26d12 : List AIns := [⟨(some 23), (.mv (.tmp 0)), none⟩, ⟨(some 24), (.call (.fnc 54) [(.tmp 23)]), none⟩, ⟨(some 25), (.load true 4 (.tmp 3)), none⟩, ⟨(some 26), (.buildS 4 [(.int .i64 0), (.int .i64 0), (.int .i64 0), (.int .i64 0)] 1 [(0, (4, (.tmp 25)))]), none⟩, ⟨(some 27), (.append 4 32 (.tmp 24) (.tmp 26)), none⟩, ⟨(some 4), (.mv (.tmp 27)), none⟩, ⟨(some 5), (.mv (.cst (.int .i64 0))), none⟩]
abbrev A26d12a : List AIns := [⟨(some 23), (.mv (.tmp 0)), none⟩, ⟨(some 24), (.call (.fnc 54) [(.tmp 23)]), none⟩, ⟨(some 25), (.load true 4 (.tmp 3)), none⟩]
abbrev A26d12b : List AIns := [⟨(some 26), (.buildS 4 [(.int .i64 0), (.int .i64 0), (.int .i64 0), (.int .i64 0)] 1 [(0, (4, (.tmp 25)))]), none⟩, ⟨(some 27), (.append 4 32 (.tmp 24) (.tmp 26)), none⟩, ⟨(some 4), (.mv (.tmp 27)), none⟩, ⟨(some 5), (.mv (.cst (.int .i64 0))), none⟩]
abbrev A26d12x : List AIns := [⟨(some 23), (.mv (.tmp 0)), none⟩]
abbrev A26d12m : List AIns := [⟨(some 25), (.load true 4 (.tmp 3)), none⟩]
abbrev A26d12s : List AIns := [⟨(some 26), (.buildS 4 [(.int .i64 0), (.int .i64 0), (.int .i64 0), (.int .i64 0)] 1 [(0, (4, (.tmp 25)))]), none⟩, ⟨(some 27), (.append 4 32 (.tmp 24) (.tmp 26)), none⟩, ⟨(some 4), (.mv (.tmp 27)), none⟩, ⟨(some 5), (.mv (.cst (.int .i64 0))), none⟩]
def A26 : AFun := ⟨28, 2, [(.tmp 4), (.tmp 5)], (.seq (.reg A26r1 [0, 3]) (.seq (.reg A26r2 [0, 3, 6]) (.seq (.block 0 A26c11) (.seq (.dreg A26d12 [[], [0], [], [2], [0, 1, 2, 3], [0, 1, 2, 3, 4], [0, 1, 2, 3, 4, 5]] [4, 5]) .ret))))⟩
theorem A26c : compF Try.prog Try.f26 = some A26 := by kernel_rfl
theorem A26k : Callable Try.prog 26 := fun a w => Try.call26 a w
theorem A26p {ds : List D} {r : D} (hl : ds.length ≤ A26.nt) (hw : W Try.prog A26.code (Fin A26.results r) ⟨argEnv 0 ds, fun _ => none⟩) : PCon Try.prog 26 ds r := pcon_of_W mixed Try.func26 A26k A26c hl hw
/- estovers/estoversref21.Push -/
/- estovers/grant.Cancel -/
/- estovers/estoversref21.Cancel -/
/- estovers/estoversref21.Same -/
/- estovers/estoverstop.bServes -/
/- estovers/estoverstop.bStart -/
/- estovers/grant.valid -/
abbrev A34r1 : List AIns := [⟨(some 1), (.box (.tmp 0)), none⟩, ⟨(some 2), (.mv (.cst (.bool false))), none⟩]
abbrev A34r2 : List AIns := [⟨(some 3), (.faddr 0 (.tmp 1)), none⟩, ⟨(some 4), (.load false 1 (.tmp 3)), none⟩, ⟨(some 5), (.bin .geq (.tmp 4) (.cst (.int .i64 0))), none⟩, ⟨(some 6), (.mv (.tmp 5)), none⟩, ⟨(some 7), (.faddr 0 (.tmp 1)), (some (6, true))⟩, ⟨(some 8), (.load false 1 (.tmp 7)), (some (6, true))⟩, ⟨(some 9), (.bin .lss (.tmp 8) (.cst (.int .i64 8))), (some (6, true))⟩, ⟨(some 10), (.pick (.tmp 6) (.tmp 9) (.cst (.bool false))), none⟩, ⟨(some 11), (.mv (.tmp 10)), none⟩, ⟨(some 12), (.faddr 1 (.tmp 1)), (some (11, true))⟩, ⟨(some 13), (.load false 1 (.tmp 12)), (some (11, true))⟩, ⟨(some 14), (.bin .geq (.tmp 13) (.cst (.int .i64 0))), (some (11, true))⟩, ⟨(some 15), (.pick (.tmp 11) (.tmp 14) (.cst (.bool false))), none⟩, ⟨(some 16), (.mv (.tmp 15)), none⟩, ⟨(some 17), (.faddr 2 (.tmp 1)), (some (16, true))⟩, ⟨(some 18), (.load false 1 (.tmp 17)), (some (16, true))⟩, ⟨(some 19), (.call (.fnc 58) [(.tmp 18)]), (some (16, true))⟩, ⟨(some 20), (.pick (.tmp 16) (.tmp 19) (.cst (.bool false))), none⟩, ⟨(some 21), (.mv (.tmp 20)), none⟩, ⟨(some 22), (.faddr 3 (.tmp 1)), (some (21, true))⟩, ⟨(some 23), (.load false 1 (.tmp 22)), (some (21, true))⟩, ⟨(some 24), (.call (.fnc 58) [(.tmp 23)]), (some (21, true))⟩, ⟨(some 25), (.pick (.tmp 21) (.tmp 24) (.cst (.bool false))), none⟩, ⟨(some 2), (.mv (.tmp 25)), none⟩]
def A34 : AFun := ⟨26, 1, [(.tmp 2)], (.seq (.reg A34r1 [1]) (.seq (.reg A34r2 [2]) .ret))⟩
theorem A34c : compF Try.prog Try.f34 = some A34 := by kernel_rfl
theorem A34k : Callable Try.prog 34 := fun a w => Try.call34 a w
theorem A34p {ds : List D} {r : D} (hl : ds.length ≤ A34.nt) (hw : W Try.prog A34.code (Fin A34.results r) ⟨argEnv 0 ds, fun _ => none⟩) : PCon Try.prog 34 ds r := pcon_of_W mixed Try.func34 A34k A34c hl hw
/- estovers/accounts.Path -/
abbrev A35r1 : List AIns := [⟨(some 4), (.mv (.cst .nil)), none⟩]
abbrev A35r2 : List AIns := [⟨(some 7), (.mv (.tmp 0)), none⟩, ⟨(some 8), (.mv (.tmp 1)), none⟩, ⟨(some 9), (.call (.fnc 59) [(.tmp 7), (.tmp 8)]), none⟩, ⟨(some 10), (.un .not (.tmp 9)), none⟩]
abbrev A35r3 : List AIns := [⟨(some 4), (.mv (.cst .nil)), none⟩]
abbrev A35r4 : List AIns := [⟨(some 5), (.mv (.cst .nil)), none⟩]
abbrev A35r5 : List AIns := [⟨(some 11), (.mv (.tmp 1)), none⟩, ⟨(some 6), (.mv (.tmp 11)), none⟩]
abbrev A35r7 : List AIns := [⟨(some 12), (.mv (.tmp 6)), none⟩, ⟨(some 13), (.bin .geq (.tmp 12) (.cst (.int .i64 0))), none⟩]
abbrev A35r8 : List AIns := [⟨(some 19), (.mv (.tmp 5)), none⟩, ⟨(some 20), (.mv (.tmp 6)), none⟩, ⟨(some 21), (.buildS 1 [(.int .i64 0)] 1 [(0, (1, (.tmp 20)))]), none⟩, ⟨(some 22), (.append 1 8 (.tmp 19) (.tmp 21)), none⟩, ⟨(some 5), (.mv (.tmp 22)), none⟩]
abbrev A35r9 : List AIns := [⟨(some 14), (.mv (.tmp 0)), none⟩, ⟨(some 15), (.mv (.tmp 6)), none⟩, ⟨(some 16), (.iaddr 5 (.tmp 14) (.tmp 15)), none⟩, ⟨(some 17), (.faddr 0 (.tmp 16)), none⟩, ⟨(some 18), (.load false 1 (.tmp 17)), none⟩, ⟨(some 6), (.mv (.tmp 18)), none⟩]
abbrev A35l6 : ACode := (.seq (.seq (.reg A35r7 [0, 5, 6, 13]) (.cond (.tmp 13) [0, 5, 6] .skip [5] (.exit 0))) (.seq (.block 1 (.reg A35r8 [0, 5, 6])) (.reg A35r9 [0, 5, 6])))
abbrev A35r10 : List AIns := [⟨(some 23), (.mv (.tmp 5)), none⟩, ⟨(some 4), (.mv (.tmp 23)), none⟩]
def A35 : AFun := ⟨24, 2, [(.tmp 4)], (.seq (.reg A35r1 [0, 1]) (.seq (.seq (.reg A35r2 [0, 1, 10]) (.cond (.tmp 10) [] (.seq (.reg A35r3 [4]) .ret) [0, 1] .skip)) (.seq (.reg A35r4 [0, 1, 5]) (.seq (.seq (.reg A35r5 [0, 5, 6]) (.block 0 (.loop A35l6))) (.seq (.reg A35r10 [4]) .ret)))))⟩
theorem A35c : compF Try.prog Try.f35 = some A35 := by kernel_rfl
theorem A35k : Callable Try.prog 35 := fun a w => Try.call35 a w
theorem A35p {ds : List D} {r : D} (hl : ds.length ≤ A35.nt) (hw : W Try.prog A35.code (Fin A35.results r) ⟨argEnv 0 ds, fun _ => none⟩) : PCon Try.prog 35 ds r := pcon_of_W mixed Try.func35 A35k A35c hl hw
/- estovers/estoversref21.Valid -/
abbrev A36r1 : List AIns := [⟨(some 1), (.box (.tmp 0)), none⟩, ⟨(some 2), (.mv (.cst (.bool false))), none⟩]
abbrev A36r2 : List AIns := [⟨(some 3), (.faddr 0 (.tmp 1)), none⟩, ⟨(some 4), (.load false 1 (.tmp 3)), none⟩, ⟨(some 5), (.bin .geq (.tmp 4) (.cst (.int .i64 0))), none⟩, ⟨(some 6), (.mv (.tmp 5)), none⟩, ⟨(some 7), (.faddr 0 (.tmp 1)), (some (6, true))⟩, ⟨(some 8), (.load false 1 (.tmp 7)), (some (6, true))⟩, ⟨(some 9), (.bin .lss (.tmp 8) (.cst (.int .i64 8))), (some (6, true))⟩, ⟨(some 10), (.pick (.tmp 6) (.tmp 9) (.cst (.bool false))), none⟩, ⟨(some 11), (.mv (.tmp 10)), none⟩, ⟨(some 12), (.faddr 1 (.tmp 1)), (some (11, true))⟩, ⟨(some 13), (.load false 1 (.tmp 12)), (some (11, true))⟩, ⟨(some 14), (.bin .geq (.tmp 13) (.cst (.int .i64 0))), (some (11, true))⟩, ⟨(some 15), (.pick (.tmp 11) (.tmp 14) (.cst (.bool false))), none⟩, ⟨(some 16), (.mv (.tmp 15)), none⟩, ⟨(some 17), (.faddr 2 (.tmp 1)), (some (16, true))⟩, ⟨(some 18), (.load false 1 (.tmp 17)), (some (16, true))⟩, ⟨(some 19), (.bin .geq (.tmp 18) (.cst (.int .i64 0))), (some (16, true))⟩, ⟨(some 20), (.pick (.tmp 16) (.tmp 19) (.cst (.bool false))), none⟩, ⟨(some 21), (.mv (.tmp 20)), none⟩, ⟨(some 22), (.faddr 2 (.tmp 1)), (some (21, true))⟩, ⟨(some 23), (.load false 1 (.tmp 22)), (some (21, true))⟩, ⟨(some 24), (.bin .leq (.tmp 23) (.cst (.int .i64 1048576))), (some (21, true))⟩, ⟨(some 25), (.pick (.tmp 21) (.tmp 24) (.cst (.bool false))), none⟩, ⟨(some 26), (.mv (.tmp 25)), none⟩, ⟨(some 27), (.faddr 3 (.tmp 1)), (some (26, true))⟩, ⟨(some 28), (.load false 1 (.tmp 27)), (some (26, true))⟩, ⟨(some 29), (.bin .geq (.tmp 28) (.cst (.int .i64 0))), (some (26, true))⟩, ⟨(some 30), (.pick (.tmp 26) (.tmp 29) (.cst (.bool false))), none⟩, ⟨(some 31), (.mv (.tmp 30)), none⟩, ⟨(some 32), (.faddr 3 (.tmp 1)), (some (31, true))⟩, ⟨(some 33), (.load false 1 (.tmp 32)), (some (31, true))⟩, ⟨(some 34), (.bin .leq (.tmp 33) (.cst (.int .i64 1048576))), (some (31, true))⟩, ⟨(some 35), (.pick (.tmp 31) (.tmp 34) (.cst (.bool false))), none⟩, ⟨(some 2), (.mv (.tmp 35)), none⟩]
def A36 : AFun := ⟨36, 1, [(.tmp 2)], (.seq (.reg A36r1 [1]) (.seq (.reg A36r2 [2]) .ret))⟩
theorem A36c : compF Try.prog Try.f36 = some A36 := by kernel_rfl
theorem A36k : Callable Try.prog 36 := fun a w => Try.call36 a w
theorem A36p {ds : List D} {r : D} (hl : ds.length ≤ A36.nt) (hw : W Try.prog A36.code (Fin A36.results r) ⟨argEnv 0 ds, fun _ => none⟩) : PCon Try.prog 36 ds r := pcon_of_W mixed Try.func36 A36k A36c hl hw
/- estovers/estoversref19.Check -/
abbrev A37r1 : List AIns := [⟨(some 2), (.mv (.cst (.int .i64 0))), none⟩]
abbrev A37r2 : List AIns := [⟨(some 7), (.mv (.tmp 0)), none⟩, ⟨(some 8), (.len (.tmp 7)), none⟩, ⟨(some 9), (.bin .lss (.tmp 8) (.cst (.int .i64 1))), none⟩, ⟨(some 10), (.mv (.tmp 9)), none⟩, ⟨(some 11), (.mv (.tmp 0)), (some (10, false))⟩, ⟨(some 12), (.len (.tmp 11)), (some (10, false))⟩, ⟨(some 13), (.bin .gtr (.tmp 12) (.cst (.int .i64 8))), (some (10, false))⟩, ⟨(some 14), (.pick (.tmp 10) (.cst (.bool true)) (.tmp 13)), none⟩]
abbrev A37r3 : List AIns := [⟨(some 2), (.mv (.cst (.int .i64 9))), none⟩]
abbrev A37r4 : List AIns := [⟨(some 3), (.mv (.cst (.int .i64 0))), none⟩]
abbrev A37r6 : List AIns := [⟨(some 15), (.mv (.tmp 3)), none⟩, ⟨(some 16), (.mv (.tmp 0)), none⟩, ⟨(some 17), (.len (.tmp 16)), none⟩, ⟨(some 18), (.bin .lss (.tmp 15) (.tmp 17)), none⟩]
abbrev A37r7 : List AIns := [⟨(some 21), (.mv (.tmp 3)), none⟩, ⟨(some 22), (.bin .eql (.tmp 21) (.cst (.int .i64 0))), none⟩, ⟨(some 23), (.mv (.tmp 22)), none⟩, ⟨(some 24), (.mv (.tmp 0)), (some (23, true))⟩, ⟨(some 25), (.mv (.tmp 3)), (some (23, true))⟩, ⟨(some 26), (.iaddr 5 (.tmp 24) (.tmp 25)), (some (23, true))⟩, ⟨(some 27), (.faddr 0 (.tmp 26)), (some (23, true))⟩, ⟨(some 28), (.load false 1 (.tmp 27)), (some (23, true))⟩, ⟨(some 29), (.bin .neq (.tmp 28) (.cst (.int .i64 (-1)))), (some (23, true))⟩, ⟨(some 30), (.pick (.tmp 23) (.tmp 29) (.cst (.bool false))), none⟩, ⟨(some 31), (.mv (.tmp 30)), none⟩, ⟨(some 32), (.mv (.tmp 3)), (some (31, false))⟩, ⟨(some 33), (.bin .gtr (.tmp 32) (.cst (.int .i64 0))), (some (31, false))⟩, ⟨(some 34), (.mv (.tmp 33)), (some (31, false))⟩, ⟨(some 35), (.mv (.tmp 0)), (some (34, true))⟩, ⟨(some 36), (.mv (.tmp 3)), (some (34, true))⟩, ⟨(some 37), (.iaddr 5 (.tmp 35) (.tmp 36)), (some (34, true))⟩, ⟨(some 38), (.faddr 0 (.tmp 37)), (some (34, true))⟩, ⟨(some 39), (.load false 1 (.tmp 38)), (some (34, true))⟩, ⟨(some 40), (.bin .lss (.tmp 39) (.cst (.int .i64 0))), (some (34, true))⟩, ⟨(some 41), (.mv (.tmp 40)), (some (34, true))⟩, ⟨(some 42), (.mv (.tmp 0)), (some (41, false))⟩, ⟨(some 43), (.mv (.tmp 3)), (some (41, false))⟩, ⟨(some 44), (.iaddr 5 (.tmp 42) (.tmp 43)), (some (41, false))⟩, ⟨(some 45), (.faddr 0 (.tmp 44)), (some (41, false))⟩, ⟨(some 46), (.load false 1 (.tmp 45)), (some (41, false))⟩, ⟨(some 47), (.mv (.tmp 3)), (some (41, false))⟩, ⟨(some 48), (.bin .geq (.tmp 46) (.tmp 47)), (some (41, false))⟩, ⟨(some 49), (.pick (.tmp 41) (.cst (.bool true)) (.tmp 48)), (some (34, true))⟩, ⟨(some 50), (.pick (.tmp 34) (.tmp 49) (.cst (.bool false))), (some (31, false))⟩, ⟨(some 51), (.pick (.tmp 31) (.cst (.bool true)) (.tmp 50)), none⟩]
abbrev A37r8 : List AIns := [⟨(some 2), (.mv (.cst (.int .i64 1))), none⟩]
abbrev A37c9 : ACode := (.seq (.reg A37r7 [0, 3, 51]) (.cond (.tmp 51) [] (.seq (.reg A37r8 [2]) .ret) [0, 3] .skip))
abbrev A37r10 : List AIns := [⟨(some 19), (.mv (.tmp 3)), none⟩, ⟨(some 20), (.bin .add (.tmp 19) (.cst (.int .i64 1))), none⟩, ⟨(some 3), (.mv (.tmp 20)), none⟩]
abbrev A37l5 : ACode := (.seq (.seq (.reg A37r6 [0, 3, 18]) (.cond (.tmp 18) [0, 3] .skip [0] (.exit 0))) (.seq (.block 1 A37c9) (.reg A37r10 [0, 3])))
abbrev A37r11 : List AIns := [⟨(some 4), (.mv (.cst (.int .i64 0))), none⟩]
abbrev A37r13 : List AIns := [⟨(some 52), (.mv (.tmp 4)), none⟩, ⟨(some 53), (.mv (.tmp 0)), none⟩, ⟨(some 54), (.len (.tmp 53)), none⟩, ⟨(some 55), (.bin .lss (.tmp 52) (.tmp 54)), none⟩]
abbrev A37r14 : List AIns := [⟨(some 58), (.mv (.tmp 0)), none⟩, ⟨(some 59), (.mv (.tmp 4)), none⟩, ⟨(some 60), (.iaddr 5 (.tmp 58) (.tmp 59)), none⟩, ⟨(some 61), (.faddr 1 (.tmp 60)), none⟩, ⟨(some 62), (.load false 1 (.tmp 61)), none⟩, ⟨(some 63), (.call (.fnc 60) [(.tmp 62)]), none⟩, ⟨(some 64), (.un .not (.tmp 63)), none⟩, ⟨(some 65), (.mv (.tmp 64)), none⟩, ⟨(some 66), (.mv (.tmp 0)), (some (65, false))⟩, ⟨(some 67), (.mv (.tmp 4)), (some (65, false))⟩, ⟨(some 68), (.iaddr 5 (.tmp 66) (.tmp 67)), (some (65, false))⟩, ⟨(some 69), (.faddr 2 (.tmp 68)), (some (65, false))⟩, ⟨(some 70), (.load false 1 (.tmp 69)), (some (65, false))⟩, ⟨(some 71), (.call (.fnc 60) [(.tmp 70)]), (some (65, false))⟩, ⟨(some 72), (.un .not (.tmp 71)), (some (65, false))⟩, ⟨(some 73), (.pick (.tmp 65) (.cst (.bool true)) (.tmp 72)), none⟩, ⟨(some 74), (.mv (.tmp 73)), none⟩, ⟨(some 75), (.mv (.tmp 0)), (some (74, false))⟩, ⟨(some 76), (.mv (.tmp 4)), (some (74, false))⟩, ⟨(some 77), (.iaddr 5 (.tmp 75) (.tmp 76)), (some (74, false))⟩, ⟨(some 78), (.faddr 3 (.tmp 77)), (some (74, false))⟩, ⟨(some 79), (.load false 1 (.tmp 78)), (some (74, false))⟩, ⟨(some 80), (.call (.fnc 60) [(.tmp 79)]), (some (74, false))⟩, ⟨(some 81), (.un .not (.tmp 80)), (some (74, false))⟩, ⟨(some 82), (.pick (.tmp 74) (.cst (.bool true)) (.tmp 81)), none⟩, ⟨(some 83), (.mv (.tmp 82)), none⟩, ⟨(some 84), (.mv (.tmp 0)), (some (83, false))⟩, ⟨(some 85), (.mv (.tmp 4)), (some (83, false))⟩, ⟨(some 86), (.iaddr 5 (.tmp 84) (.tmp 85)), (some (83, false))⟩, ⟨(some 87), (.faddr 4 (.tmp 86)), (some (83, false))⟩, ⟨(some 88), (.load false 1 (.tmp 87)), (some (83, false))⟩, ⟨(some 89), (.call (.fnc 60) [(.tmp 88)]), (some (83, false))⟩, ⟨(some 90), (.un .not (.tmp 89)), (some (83, false))⟩, ⟨(some 91), (.pick (.tmp 83) (.cst (.bool true)) (.tmp 90)), none⟩]
abbrev A37r15 : List AIns := [⟨(some 2), (.mv (.cst (.int .i64 2))), none⟩]
abbrev A37c16 : ACode := (.seq (.reg A37r14 [0, 4, 91]) (.cond (.tmp 91) [] (.seq (.reg A37r15 [2]) .ret) [0, 4] .skip))
abbrev A37r17 : List AIns := [⟨(some 56), (.mv (.tmp 4)), none⟩, ⟨(some 57), (.bin .add (.tmp 56) (.cst (.int .i64 1))), none⟩, ⟨(some 4), (.mv (.tmp 57)), none⟩]
abbrev A37l12 : ACode := (.seq (.seq (.reg A37r13 [0, 4, 55]) (.cond (.tmp 55) [0, 4] .skip [0] (.exit 2))) (.seq (.block 3 A37c16) (.reg A37r17 [0, 4])))
abbrev A37r18 : List AIns := [⟨(some 92), (.mv (.tmp 0)), none⟩, ⟨(some 93), (.iaddr 5 (.tmp 92) (.cst (.int .i64 0))), none⟩, ⟨(some 94), (.faddr 2 (.tmp 93)), none⟩, ⟨(some 95), (.load false 1 (.tmp 94)), none⟩, ⟨(some 96), (.bin .neq (.tmp 95) (.cst (.int .i64 0))), none⟩, ⟨(some 97), (.mv (.tmp 96)), none⟩, ⟨(some 98), (.mv (.tmp 0)), (some (97, false))⟩, ⟨(some 99), (.iaddr 5 (.tmp 98) (.cst (.int .i64 0))), (some (97, false))⟩, ⟨(some 100), (.faddr 3 (.tmp 99)), (some (97, false))⟩, ⟨(some 101), (.load false 1 (.tmp 100)), (some (97, false))⟩, ⟨(some 102), (.bin .neq (.tmp 101) (.cst (.int .i64 0))), (some (97, false))⟩, ⟨(some 103), (.pick (.tmp 97) (.cst (.bool true)) (.tmp 102)), none⟩]
abbrev A37r19 : List AIns := [⟨(some 2), (.mv (.cst (.int .i64 2))), none⟩]
abbrev A37r20 : List AIns := [⟨(some 5), (.mv (.cst (.int .i64 0))), none⟩]
abbrev A37r22 : List AIns := [⟨(some 104), (.mv (.tmp 5)), none⟩, ⟨(some 105), (.mv (.tmp 0)), none⟩, ⟨(some 106), (.len (.tmp 105)), none⟩, ⟨(some 107), (.bin .lss (.tmp 104) (.tmp 106)), none⟩]
abbrev A37d23 : List AIns := [⟨(some 110), (.mv (.tmp 0)), none⟩, ⟨(some 111), (.mv (.tmp 5)), none⟩, ⟨(some 112), (.iaddr 5 (.tmp 110) (.tmp 111)), none⟩, ⟨(some 113), (.faddr 1 (.tmp 112)), none⟩, ⟨(some 114), (.load false 1 (.tmp 113)), none⟩, ⟨(some 115), (.mv (.tmp 0)), none⟩, ⟨(some 116), (.mv (.tmp 5)), none⟩, ⟨(some 117), (.iaddr 5 (.tmp 115) (.tmp 116)), none⟩, ⟨(some 118), (.faddr 4 (.tmp 117)), none⟩, ⟨(some 119), (.load false 1 (.tmp 118)), none⟩, ⟨(some 120), (.bin .gtr (.tmp 114) (.tmp 119)), none⟩]
abbrev A37r24 : List AIns := [⟨(some 2), (.mv (.cst (.int .i64 17))), none⟩]
abbrev A37c25 : ACode := (.seq (.dreg A37d23 [[], [], [0, 1], [0, 1, 2], [0, 1, 2, 3], [], [], [5, 6], [5, 6, 7], [5, 6, 7, 8], [0, 1, 2, 3, 4, 5, 6, 7, 8, 9]] [0, 5, 120]) (.cond (.tmp 120) [] (.seq (.reg A37r24 [2]) .ret) [0, 5] .skip))
abbrev A37r26 : List AIns := [⟨(some 108), (.mv (.tmp 5)), none⟩, ⟨(some 109), (.bin .add (.tmp 108) (.cst (.int .i64 1))), none⟩, ⟨(some 5), (.mv (.tmp 109)), none⟩]
abbrev A37l21 : ACode := (.seq (.seq (.reg A37r22 [0, 5, 107]) (.cond (.tmp 107) [0, 5] .skip [0] (.exit 4))) (.seq (.block 5 A37c25) (.reg A37r26 [0, 5])))
abbrev A37r27 : List AIns := [⟨(some 6), (.mv (.cst (.int .i64 0))), none⟩]
abbrev A37r29 : List AIns := [⟨(some 121), (.mv (.tmp 6)), none⟩, ⟨(some 122), (.mv (.tmp 0)), none⟩, ⟨(some 123), (.len (.tmp 122)), none⟩, ⟨(some 124), (.bin .lss (.tmp 121) (.tmp 123)), none⟩]
abbrev A37d30 : List AIns := [⟨(some 127), (.mv (.tmp 0)), none⟩, ⟨(some 128), (.mv (.tmp 6)), none⟩, ⟨(some 129), (.iaddr 5 (.tmp 127) (.tmp 128)), none⟩, ⟨(some 130), (.faddr 1 (.tmp 129)), none⟩, ⟨(some 131), (.load false 1 (.tmp 130)), none⟩, ⟨(some 132), (.mv (.tmp 0)), none⟩, ⟨(some 133), (.mv (.tmp 6)), none⟩, ⟨(some 134), (.call (.fnc 61) [(.tmp 132), (.tmp 133)]), none⟩, ⟨(some 135), (.bin .lss (.tmp 131) (.tmp 134)), none⟩]
abbrev A37r31 : List AIns := [⟨(some 2), (.mv (.cst (.int .i64 11))), none⟩]
abbrev A37c32 : ACode := (.seq (.dreg A37d30 [[], [], [0, 1], [0, 1, 2], [0, 1, 2, 3], [], [], [5, 6], [0, 1, 2, 3, 4, 5, 6, 7]] [0, 6, 135]) (.cond (.tmp 135) [] (.seq (.reg A37r31 [2]) .ret) [0, 6] .skip))
abbrev A37r33 : List AIns := [⟨(some 125), (.mv (.tmp 6)), none⟩, ⟨(some 126), (.bin .add (.tmp 125) (.cst (.int .i64 1))), none⟩, ⟨(some 6), (.mv (.tmp 126)), none⟩]
abbrev A37l28 : ACode := (.seq (.seq (.reg A37r29 [0, 6, 124]) (.cond (.tmp 124) [0, 6] .skip [] (.exit 6))) (.seq (.block 7 A37c32) (.reg A37r33 [0, 6])))
abbrev A37r34 : List AIns := [⟨(some 2), (.mv (.cst (.int .i64 0))), none⟩]
def A37 : AFun := ⟨136, 1, [(.tmp 2)], (.seq (.reg A37r1 [0]) (.seq (.seq (.reg A37r2 [0, 14]) (.cond (.tmp 14) [] (.seq (.reg A37r3 [2]) .ret) [0] .skip)) (.seq (.seq (.reg A37r4 [0, 3]) (.block 0 (.loop A37l5))) (.seq (.seq (.reg A37r11 [0, 4]) (.block 2 (.loop A37l12))) (.seq (.seq (.reg A37r18 [0, 103]) (.cond (.tmp 103) [] (.seq (.reg A37r19 [2]) .ret) [0] .skip)) (.seq (.seq (.reg A37r20 [0, 5]) (.block 4 (.loop A37l21))) (.seq (.seq (.reg A37r27 [0, 6]) (.block 6 (.loop A37l28))) (.seq (.reg A37r34 [2]) .ret))))))))⟩
theorem A37c : compF Try.prog Try.f37 = some A37 := by kernel_rfl
theorem A37k : Callable Try.prog 37 := fun a w => Try.call37 a w
theorem A37p {ds : List D} {r : D} (hl : ds.length ≤ A37.nt) (hw : W Try.prog A37.code (Fin A37.results r) ⟨argEnv 0 ds, fun _ => none⟩) : PCon Try.prog 37 ds r := pcon_of_W mixed Try.func37 A37k A37c hl hw
/- estovers/estoversref19.Path -/
abbrev A38r1 : List AIns := [⟨(some 4), (.mv (.cst .nil)), none⟩]
abbrev A38r2 : List AIns := [⟨(some 6), (.mv (.tmp 0)), none⟩, ⟨(some 7), (.mv (.tmp 1)), none⟩, ⟨(some 8), (.call (.fnc 62) [(.tmp 6), (.tmp 7)]), none⟩, ⟨(some 9), (.un .not (.tmp 8)), none⟩]
abbrev A38r3 : List AIns := [⟨(some 4), (.mv (.cst .nil)), none⟩]
abbrev A38r4 : List AIns := [⟨(some 5), (.mv (.cst .nil)), none⟩]
abbrev A38r6 : List AIns := [⟨(some 10), (.mv (.tmp 1)), none⟩, ⟨(some 11), (.bin .geq (.tmp 10) (.cst (.int .i64 0))), none⟩]
abbrev A38r7 : List AIns := [⟨(some 12), (.mv (.tmp 5)), none⟩, ⟨(some 13), (.mv (.tmp 1)), none⟩, ⟨(some 14), (.buildS 1 [(.int .i64 0)] 1 [(0, (1, (.tmp 13)))]), none⟩, ⟨(some 15), (.append 1 8 (.tmp 12) (.tmp 14)), none⟩, ⟨(some 5), (.mv (.tmp 15)), none⟩]
abbrev A38r8 : List AIns := [⟨(some 16), (.mv (.tmp 0)), none⟩, ⟨(some 17), (.mv (.tmp 1)), none⟩, ⟨(some 18), (.iaddr 5 (.tmp 16) (.tmp 17)), none⟩, ⟨(some 19), (.faddr 0 (.tmp 18)), none⟩, ⟨(some 20), (.load false 1 (.tmp 19)), none⟩, ⟨(some 1), (.mv (.tmp 20)), none⟩]
abbrev A38l5 : ACode := (.seq (.seq (.reg A38r6 [0, 1, 5, 11]) (.cond (.tmp 11) [0, 1, 5] .skip [5] (.exit 0))) (.block 1 (.seq (.reg A38r7 [0, 1, 5]) (.reg A38r8 [0, 1, 5]))))
abbrev A38r9 : List AIns := [⟨(some 21), (.mv (.tmp 5)), none⟩, ⟨(some 4), (.mv (.tmp 21)), none⟩]
def A38 : AFun := ⟨22, 2, [(.tmp 4)], (.seq (.reg A38r1 [0, 1]) (.seq (.seq (.reg A38r2 [0, 1, 9]) (.cond (.tmp 9) [] (.seq (.reg A38r3 [4]) .ret) [0, 1] .skip)) (.seq (.reg A38r4 [0, 1, 5]) (.seq (.block 0 (.loop A38l5)) (.seq (.reg A38r9 [4]) .ret)))))⟩
theorem A38c : compF Try.prog Try.f38 = some A38 := by kernel_rfl
theorem A38k : Callable Try.prog 38 := fun a w => Try.call38 a w
theorem A38p {ds : List D} {r : D} (hl : ds.length ≤ A38.nt) (hw : W Try.prog A38.code (Fin A38.results r) ⟨argEnv 0 ds, fun _ => none⟩) : PCon Try.prog 38 ds r := pcon_of_W mixed Try.func38 A38k A38c hl hw
/- estovers/estoversref21.Total -/
abbrev A39r1 : List AIns := [⟨(some 1), (.box (.tmp 0)), none⟩, ⟨(some 2), (.mv (.cst (.int .i64 0))), none⟩]
abbrev A39r2 : List AIns := [⟨(some 3), (.faddr 2 (.tmp 1)), none⟩, ⟨(some 4), (.load false 1 (.tmp 3)), none⟩, ⟨(some 5), (.faddr 3 (.tmp 1)), none⟩, ⟨(some 6), (.load false 1 (.tmp 5)), none⟩, ⟨(some 7), (.bin .add (.tmp 4) (.tmp 6)), none⟩, ⟨(some 2), (.mv (.tmp 7)), none⟩]
def A39 : AFun := ⟨8, 1, [(.tmp 2)], (.seq (.reg A39r1 [1]) (.seq (.reg A39r2 [2]) .ret))⟩
theorem A39c : compF Try.prog Try.f39 = some A39 := by kernel_rfl
theorem A39k : Callable Try.prog 39 := fun a w => Try.call39 a w
theorem A39p {ds : List D} {r : D} (hl : ds.length ≤ A39.nt) (hw : W Try.prog A39.code (Fin A39.results r) ⟨argEnv 0 ds, fun _ => none⟩) : PCon Try.prog 39 ds r := pcon_of_W mixed Try.func39 A39k A39c hl hw
/- slices.ContainsFunc[[]estovers/api.Ask,estovers/api.Ask] -/
abbrev A40r1 : List AIns := [⟨(some 4), (.mv (.cst (.bool false))), none⟩]
abbrev A40r2 : List AIns := [⟨(some 5), (.mv (.tmp 0)), none⟩, ⟨(some 6), (.mv (.tmp 1)), none⟩, ⟨(some 7), (.call (.fnc 63) [(.tmp 5), (.tmp 6)]), none⟩, ⟨(some 8), (.bin .geq (.tmp 7) (.cst (.int .i64 0))), none⟩, ⟨(some 4), (.mv (.tmp 8)), none⟩]
def A40 : AFun := ⟨9, 2, [(.tmp 4)], (.seq (.reg A40r1 [0, 1]) (.seq (.reg A40r2 [4]) .ret))⟩
theorem A40c : compF Try.prog Try.f40 = some A40 := by kernel_rfl
theorem A40k : Callable Try.prog 40 := fun a w => Try.call40 a w
theorem A40p {ds : List D} {r : D} (hl : ds.length ≤ A40.nt) (hw : W Try.prog A40.code (Fin A40.results r) ⟨argEnv 0 ds, fun _ => none⟩) : PCon Try.prog 40 ds r := pcon_of_W mixed Try.func40 A40k A40c hl hw
/- estovers/grant.Serve$1 -/
abbrev A41r1 : List AIns := [⟨(some 2), (.box (.tmp 0)), none⟩, ⟨(some 3), (.mv (.cst (.bool false))), none⟩]
abbrev A41r2 : List AIns := [⟨(some 4), (.faddr 1 (.tmp 2)), none⟩, ⟨(some 5), (.load false 1 (.tmp 4)), none⟩, ⟨(some 6), (.load false 1 (.tmp 1)), none⟩, ⟨(some 7), (.len (.tmp 6)), none⟩, ⟨(some 8), (.bin .geq (.tmp 5) (.tmp 7)), none⟩, ⟨(some 3), (.mv (.tmp 8)), none⟩]
def A41 : AFun := ⟨9, 2, [(.tmp 3)], (.seq (.reg A41r1 [1, 2]) (.seq (.reg A41r2 [3]) .ret))⟩
theorem A41c : compF Try.prog Try.f41 = some A41 := by kernel_rfl
theorem A41k : Callable Try.prog 41 := fun a w => Try.call41 a w
theorem A41p {ds : List D} {r : D} (hl : ds.length ≤ A41.nt) (hw : W Try.prog A41.code (Fin A41.results r) ⟨argEnv 0 ds, fun _ => none⟩) : PCon Try.prog 41 ds r := pcon_of_W mixed Try.func41 A41k A41c hl hw
/- slices.Clone[[]estovers/api.Account,estovers/api.Account] -/
abbrev A42r1 : List AIns := [⟨(some 2), (.mv (.cst .nil)), none⟩]
abbrev A42r2 : List AIns := [⟨(some 3), (.mv (.tmp 0)), none⟩, ⟨(some 4), (.eqN false (.tmp 3)), none⟩]
abbrev A42r3 : List AIns := [⟨(some 2), (.mv (.cst .nil)), none⟩]
abbrev A42r4 : List AIns := [⟨(some 5), (.buildS 5 [(.int .i64 0), (.int .i64 0), (.int .i64 0), (.int .i64 0), (.int .i64 0)] 0 []), none⟩, ⟨(some 6), (.mv (.tmp 0)), none⟩, ⟨(some 7), (.append 5 40 (.tmp 5) (.tmp 6)), none⟩, ⟨(some 2), (.mv (.tmp 7)), none⟩]
def A42 : AFun := ⟨8, 1, [(.tmp 2)], (.seq (.reg A42r1 [0]) (.seq (.seq (.reg A42r2 [0, 4]) (.cond (.tmp 4) [] (.seq (.reg A42r3 [2]) .ret) [0] .skip)) (.seq (.reg A42r4 [2]) .ret)))⟩
theorem A42c : compF Try.prog Try.f42 = some A42 := by kernel_rfl
theorem A42k : Callable Try.prog 42 := fun a w => Try.call42 a w
theorem A42p {ds : List D} {r : D} (hl : ds.length ≤ A42.nt) (hw : W Try.prog A42.code (Fin A42.results r) ⟨argEnv 0 ds, fun _ => none⟩) : PCon Try.prog 42 ds r := pcon_of_W mixed Try.func42 A42k A42c hl hw
/- estovers/accounts.Charge -/
abbrev A43r1 : List AIns := [⟨(some 6), (.mv (.cst .nil)), none⟩, ⟨(some 7), (.mv (.cst (.int .i64 0))), none⟩, ⟨(some 8), (.mv (.cst (.int .i64 0))), none⟩]
abbrev A43r2 : List AIns := [⟨(some 12), (.mv (.tmp 0)), none⟩, ⟨(some 13), (.mv (.tmp 1)), none⟩, ⟨(some 14), (.mv (.tmp 2)), none⟩, ⟨(some 15), (.call (.fnc 64) [(.tmp 12), (.tmp 13), (.tmp 14)]), none⟩, ⟨(some 9), (.mv (.tmp 15)), none⟩]
abbrev A43r3 : List AIns := [⟨(some 16), (.mv (.tmp 9)), none⟩, ⟨(some 17), (.bin .neq (.tmp 16) (.cst (.int .i64 0))), none⟩]
abbrev A43r4 : List AIns := [⟨(some 18), (.mv (.tmp 9)), none⟩, ⟨(some 6), (.mv (.cst .nil)), none⟩, ⟨(some 7), (.mv (.cst (.int .i64 (-1)))), none⟩, ⟨(some 8), (.mv (.tmp 18)), none⟩]
abbrev A43r5 : List AIns := [⟨(some 19), (.mv (.tmp 0)), none⟩, ⟨(some 20), (.mv (.tmp 1)), none⟩, ⟨(some 21), (.call (.fnc 35) [(.tmp 19), (.tmp 20)]), none⟩, ⟨(some 22), (.len (.tmp 21)), none⟩, ⟨(some 23), (.mv (.cst (.int .i64 0))), none⟩]
abbrev A43r7 : List AIns := [⟨(some 24), (.bin .lss (.tmp 23) (.tmp 22)), none⟩]
abbrev A43r8 : List AIns := [⟨(some 25), (.iaddr 1 (.tmp 21) (.tmp 23)), none⟩, ⟨(some 26), (.load false 1 (.tmp 25)), none⟩, ⟨(some 11), (.mv (.tmp 26)), none⟩]
abbrev A43d9 : List AIns := [⟨(some 27), (.mv (.tmp 0)), none⟩, ⟨(some 28), (.mv (.tmp 11)), none⟩, ⟨(some 29), (.iaddr 5 (.tmp 27) (.tmp 28)), none⟩, ⟨(some 30), (.faddr 1 (.tmp 29)), none⟩, ⟨(some 31), (.load false 1 (.tmp 30)), none⟩, ⟨(some 32), (.mv (.tmp 2)), none⟩, ⟨(some 33), (.bin .add (.tmp 31) (.tmp 32)), none⟩, ⟨(some 34), (.mv (.tmp 0)), none⟩, ⟨(some 35), (.mv (.tmp 11)), none⟩, ⟨(some 36), (.iaddr 5 (.tmp 34) (.tmp 35)), none⟩, ⟨(some 37), (.faddr 4 (.tmp 36)), none⟩, ⟨(some 38), (.load false 1 (.tmp 37)), none⟩, ⟨(some 39), (.bin .gtr (.tmp 33) (.tmp 38)), none⟩]
abbrev A43r10 : List AIns := [⟨(some 40), (.mv (.tmp 11)), none⟩, ⟨(some 6), (.mv (.cst .nil)), none⟩, ⟨(some 7), (.mv (.tmp 40)), none⟩, ⟨(some 8), (.mv (.cst (.int .i64 17))), none⟩]
abbrev A43c11 : ACode := (.seq (.reg A43r8 [0, 1, 2, 11, 21, 22, 23]) (.seq (.dreg A43d9 [[], [], [0, 1], [0, 1, 2], [0, 1, 2, 3], [], [0, 1, 2, 3, 4, 5], [], [], [7, 8], [7, 8, 9], [7, 8, 9, 10], [0, 1, 2, 3, 4, 5, 6, 7, 8, 9, 10, 11]] [0, 1, 2, 11, 21, 22, 23, 39]) (.cond (.tmp 39) [11] (.seq (.reg A43r10 [6, 7, 8]) .ret) [0, 1, 2, 21, 22, 23] .skip)))
abbrev A43r12 : List AIns := [⟨(some 41), (.bin .add (.tmp 23) (.cst (.int .i64 1))), none⟩, ⟨(some 23), (.mv (.tmp 41)), none⟩]
abbrev A43l6 : ACode := (.seq (.reg A43r7 [0, 1, 2, 21, 22, 23, 24]) (.seq (.cond (.tmp 24) [0, 1, 2, 21, 22, 23] .skip [0, 1, 2] (.exit 0)) (.seq (.block 1 A43c11) (.reg A43r12 [0, 1, 2, 21, 22, 23]))))
abbrev A43r13 : List AIns := [⟨(some 42), (.mv (.tmp 0)), none⟩, ⟨(some 43), (.mv (.tmp 1)), none⟩, ⟨(some 44), (.mv (.tmp 2)), none⟩, ⟨(some 45), (.call (.fnc 65) [(.tmp 42), (.tmp 43), (.tmp 44)]), none⟩, ⟨(some 6), (.mv (.tmp 45)), none⟩, ⟨(some 7), (.mv (.cst (.int .i64 (-1)))), none⟩, ⟨(some 8), (.mv (.cst (.int .i64 0))), none⟩]
def A43 : AFun := ⟨46, 3, [(.tmp 6), (.tmp 7), (.tmp 8)], (.seq (.reg A43r1 [0, 1, 2]) (.seq (.seq (.reg A43r2 [0, 1, 2, 9]) (.seq (.reg A43r3 [0, 1, 2, 9, 17]) (.cond (.tmp 17) [9] (.seq (.reg A43r4 [6, 7, 8]) .ret) [0, 1, 2] .skip))) (.seq (.seq (.reg A43r5 [0, 1, 2, 21, 22, 23]) (.block 0 (.loop A43l6))) (.seq (.reg A43r13 [6, 7, 8]) .ret))))⟩
theorem A43c : compF Try.prog Try.f43 = some A43 := by kernel_rfl
theorem A43k : Callable Try.prog 43 := fun a w => Try.call43 a w
theorem A43p {ds : List D} {r : D} (hl : ds.length ≤ A43.nt) (hw : W Try.prog A43.code (Fin A43.results r) ⟨argEnv 0 ds, fun _ => none⟩) : PCon Try.prog 43 ds r := pcon_of_W mixed Try.func43 A43k A43c hl hw
/- estovers/estoversref19.Copy -/
abbrev A44r1 : List AIns := [⟨(some 2), (.mv (.cst .nil)), none⟩]
abbrev A44r2 : List AIns := [⟨(some 3), (.mv (.cst .nil)), none⟩]
abbrev A44r3 : List AIns := [⟨(some 4), (.mv (.cst (.int .i64 0))), none⟩]
abbrev A44r5 : List AIns := [⟨(some 5), (.mv (.tmp 4)), none⟩, ⟨(some 6), (.mv (.tmp 0)), none⟩, ⟨(some 7), (.len (.tmp 6)), none⟩, ⟨(some 8), (.bin .lss (.tmp 5) (.tmp 7)), none⟩]
abbrev A44r6 : List AIns := [⟨(some 11), (.mv (.tmp 3)), none⟩, ⟨(some 12), (.mv (.tmp 0)), none⟩, ⟨(some 13), (.mv (.tmp 4)), none⟩, ⟨(some 14), (.iaddr 5 (.tmp 12) (.tmp 13)), none⟩, ⟨(some 15), (.load true 5 (.tmp 14)), none⟩, ⟨(some 16), (.buildS 5 [(.int .i64 0), (.int .i64 0), (.int .i64 0), (.int .i64 0), (.int .i64 0)] 1 [(0, (5, (.tmp 15)))]), none⟩, ⟨(some 17), (.append 5 40 (.tmp 11) (.tmp 16)), none⟩, ⟨(some 3), (.mv (.tmp 17)), none⟩]
abbrev A44r7 : List AIns := [⟨(some 9), (.mv (.tmp 4)), none⟩, ⟨(some 10), (.bin .add (.tmp 9) (.cst (.int .i64 1))), none⟩, ⟨(some 4), (.mv (.tmp 10)), none⟩]
abbrev A44l4 : ACode := (.seq (.seq (.reg A44r5 [0, 3, 4, 8]) (.cond (.tmp 8) [0, 3, 4] .skip [3] (.exit 0))) (.seq (.block 1 (.reg A44r6 [0, 3, 4])) (.reg A44r7 [0, 3, 4])))
abbrev A44r8 : List AIns := [⟨(some 18), (.mv (.tmp 3)), none⟩, ⟨(some 2), (.mv (.tmp 18)), none⟩]
def A44 : AFun := ⟨19, 1, [(.tmp 2)], (.seq (.reg A44r1 [0]) (.seq (.reg A44r2 [0, 3]) (.seq (.seq (.reg A44r3 [0, 3, 4]) (.block 0 (.loop A44l4))) (.seq (.reg A44r8 [2]) .ret))))⟩
theorem A44c : compF Try.prog Try.f44 = some A44 := by kernel_rfl
theorem A44k : Callable Try.prog 44 := fun a w => Try.call44 a w
theorem A44p {ds : List D} {r : D} (hl : ds.length ≤ A44.nt) (hw : W Try.prog A44.code (Fin A44.results r) ⟨argEnv 0 ds, fun _ => none⟩) : PCon Try.prog 44 ds r := pcon_of_W mixed Try.func44 A44k A44c hl hw
/- estovers/estoversref19.Charge -/
abbrev A45r1 : List AIns := [⟨(some 6), (.mv (.cst .nil)), none⟩, ⟨(some 7), (.mv (.cst (.int .i64 0))), none⟩, ⟨(some 8), (.mv (.cst (.int .i64 0))), none⟩]
abbrev A45r2 : List AIns := [⟨(some 12), (.mv (.tmp 0)), none⟩, ⟨(some 13), (.call (.fnc 37) [(.tmp 12)]), none⟩, ⟨(some 9), (.mv (.tmp 13)), none⟩]
abbrev A45r3 : List AIns := [⟨(some 14), (.mv (.tmp 9)), none⟩, ⟨(some 15), (.bin .neq (.tmp 14) (.cst (.int .i64 0))), none⟩]
abbrev A45r4 : List AIns := [⟨(some 16), (.mv (.tmp 9)), none⟩, ⟨(some 6), (.mv (.cst .nil)), none⟩, ⟨(some 7), (.mv (.cst (.int .i64 (-1)))), none⟩, ⟨(some 8), (.mv (.tmp 16)), none⟩]
abbrev A45r5 : List AIns := [⟨(some 17), (.mv (.tmp 0)), none⟩, ⟨(some 18), (.mv (.tmp 1)), none⟩, ⟨(some 19), (.call (.fnc 62) [(.tmp 17), (.tmp 18)]), none⟩, ⟨(some 20), (.un .not (.tmp 19)), none⟩]
abbrev A45r6 : List AIns := [⟨(some 6), (.mv (.cst .nil)), none⟩, ⟨(some 7), (.mv (.cst (.int .i64 (-1)))), none⟩, ⟨(some 8), (.mv (.cst (.int .i64 6))), none⟩]
abbrev A45r7 : List AIns := [⟨(some 21), (.mv (.tmp 2)), none⟩, ⟨(some 22), (.call (.fnc 60) [(.tmp 21)]), none⟩, ⟨(some 23), (.un .not (.tmp 22)), none⟩]
abbrev A45r8 : List AIns := [⟨(some 6), (.mv (.cst .nil)), none⟩, ⟨(some 7), (.mv (.cst (.int .i64 (-1)))), none⟩, ⟨(some 8), (.mv (.cst (.int .i64 2))), none⟩]
abbrev A45r9 : List AIns := [⟨(some 24), (.mv (.tmp 0)), none⟩, ⟨(some 25), (.mv (.tmp 1)), none⟩, ⟨(some 26), (.call (.fnc 38) [(.tmp 24), (.tmp 25)]), none⟩, ⟨(some 10), (.mv (.tmp 26)), none⟩]
abbrev A45r10 : List AIns := [⟨(some 11), (.mv (.cst (.int .i64 0))), none⟩]
abbrev A45r12 : List AIns := [⟨(some 27), (.mv (.tmp 11)), none⟩, ⟨(some 28), (.mv (.tmp 10)), none⟩, ⟨(some 29), (.len (.tmp 28)), none⟩, ⟨(some 30), (.bin .lss (.tmp 27) (.tmp 29)), none⟩]
abbrev A45d13 : List AIns := [⟨(some 33), (.mv (.tmp 2)), none⟩, ⟨(some 34), (.mv (.tmp 0)), none⟩, ⟨(some 35), (.mv (.tmp 10)), none⟩, ⟨(some 36), (.mv (.tmp 11)), none⟩, ⟨(some 37), (.iaddr 1 (.tmp 35) (.tmp 36)), none⟩, ⟨(some 38), (.load false 1 (.tmp 37)), none⟩, ⟨(some 39), (.iaddr 5 (.tmp 34) (.tmp 38)), none⟩, ⟨(some 40), (.faddr 4 (.tmp 39)), none⟩, ⟨(some 41), (.load false 1 (.tmp 40)), none⟩, ⟨(some 42), (.mv (.tmp 0)), none⟩, ⟨(some 43), (.mv (.tmp 10)), none⟩, ⟨(some 44), (.mv (.tmp 11)), none⟩, ⟨(some 45), (.iaddr 1 (.tmp 43) (.tmp 44)), none⟩, ⟨(some 46), (.load false 1 (.tmp 45)), none⟩, ⟨(some 47), (.iaddr 5 (.tmp 42) (.tmp 46)), none⟩, ⟨(some 48), (.faddr 1 (.tmp 47)), none⟩, ⟨(some 49), (.load false 1 (.tmp 48)), none⟩, ⟨(some 50), (.bin .sub (.tmp 41) (.tmp 49)), none⟩, ⟨(some 51), (.bin .gtr (.tmp 33) (.tmp 50)), none⟩]
abbrev A45d14 : List AIns := [⟨(some 52), (.mv (.tmp 10)), none⟩, ⟨(some 53), (.mv (.tmp 11)), none⟩, ⟨(some 54), (.iaddr 1 (.tmp 52) (.tmp 53)), none⟩, ⟨(some 55), (.load false 1 (.tmp 54)), none⟩, ⟨(some 6), (.mv (.cst .nil)), none⟩, ⟨(some 7), (.mv (.tmp 55)), none⟩, ⟨(some 8), (.mv (.cst (.int .i64 17))), none⟩]
abbrev A45c15 : ACode := (.seq (.dreg A45d14 [[], [], [0, 1], [0, 1, 2], [], [0, 1, 2, 3, 4], [0, 1, 2, 3, 4, 5]] [6, 7, 8]) .ret)
abbrev A45c16 : ACode := (.seq (.dreg A45d13 [[], [], [], [], [2, 3], [2, 3, 4], [1, 2, 3, 4, 5], [1, 2, 3, 4, 5, 6], [1, 2, 3, 4, 5, 6, 7], [], [], [], [10, 11], [10, 11, 12], [9, 10, 11, 12, 13], [9, 10, 11, 12, 13, 14], [9, 10, 11, 12, 13, 14, 15], [1, 2, 3, 4, 5, 6, 7, 8, 9, 10, 11, 12, 13, 14, 15, 16], [0, 1, 2, 3, 4, 5, 6, 7, 8, 9, 10, 11, 12, 13, 14, 15, 16, 17]] [0, 1, 2, 10, 11, 51]) (.cond (.tmp 51) [10, 11] A45c15 [0, 1, 2, 10, 11] .skip))
abbrev A45r17 : List AIns := [⟨(some 31), (.mv (.tmp 11)), none⟩, ⟨(some 32), (.bin .add (.tmp 31) (.cst (.int .i64 1))), none⟩, ⟨(some 11), (.mv (.tmp 32)), none⟩]
abbrev A45l11 : ACode := (.seq (.seq (.reg A45r12 [0, 1, 2, 10, 11, 30]) (.cond (.tmp 30) [0, 1, 2, 10, 11] .skip [0, 1, 2] (.exit 0))) (.seq (.block 1 A45c16) (.reg A45r17 [0, 1, 2, 10, 11])))
abbrev A45r18 : List AIns := [⟨(some 56), (.mv (.tmp 0)), none⟩, ⟨(some 57), (.mv (.tmp 1)), none⟩, ⟨(some 58), (.mv (.tmp 2)), none⟩, ⟨(some 59), (.call (.fnc 66) [(.tmp 56), (.tmp 57), (.tmp 58)]), none⟩, ⟨(some 6), (.mv (.tmp 59)), none⟩, ⟨(some 7), (.mv (.cst (.int .i64 (-1)))), none⟩, ⟨(some 8), (.mv (.cst (.int .i64 0))), none⟩]
def A45 : AFun := ⟨60, 3, [(.tmp 6), (.tmp 7), (.tmp 8)], (.seq (.reg A45r1 [0, 1, 2]) (.seq (.reg A45r2 [0, 1, 2, 9]) (.seq (.seq (.reg A45r3 [0, 1, 2, 9, 15]) (.cond (.tmp 15) [9] (.seq (.reg A45r4 [6, 7, 8]) .ret) [0, 1, 2] .skip)) (.seq (.seq (.reg A45r5 [0, 1, 2, 20]) (.cond (.tmp 20) [] (.seq (.reg A45r6 [6, 7, 8]) .ret) [0, 1, 2] .skip)) (.seq (.seq (.reg A45r7 [0, 1, 2, 23]) (.cond (.tmp 23) [] (.seq (.reg A45r8 [6, 7, 8]) .ret) [0, 1, 2] .skip)) (.seq (.reg A45r9 [0, 1, 2, 10]) (.seq (.seq (.reg A45r10 [0, 1, 2, 10, 11]) (.block 0 (.loop A45l11))) (.seq (.reg A45r18 [6, 7, 8]) .ret))))))))⟩
theorem A45c : compF Try.prog Try.f45 = some A45 := by kernel_rfl
theorem A45k : Callable Try.prog 45 := fun a w => Try.call45 a w
theorem A45p {ds : List D} {r : D} (hl : ds.length ≤ A45.nt) (hw : W Try.prog A45.code (Fin A45.results r) ⟨argEnv 0 ds, fun _ => none⟩) : PCon Try.prog 45 ds r := pcon_of_W mixed Try.func45 A45k A45c hl hw
/- estovers/accounts.tree -/
abbrev A46r1 : List AIns := [⟨(some 2), (.mv (.cst (.bool false))), none⟩]
abbrev A46r2 : List AIns := [⟨(some 5), (.mv (.tmp 0)), none⟩, ⟨(some 6), (.len (.tmp 5)), none⟩, ⟨(some 7), (.mv (.cst (.int .i64 0))), none⟩]
abbrev A46r4 : List AIns := [⟨(some 8), (.bin .lss (.tmp 7) (.tmp 6)), none⟩]
abbrev A46r5 : List AIns := [⟨(some 9), (.mv (.tmp 7)), none⟩, ⟨(some 10), (.iaddr 5 (.tmp 5) (.tmp 7)), none⟩, ⟨(some 11), (.load true 5 (.tmp 10)), none⟩, ⟨(some 4), (.alloc [(.int .i64 0), (.int .i64 0), (.int .i64 0), (.int .i64 0), (.int .i64 0)]), none⟩, ⟨(some 3), (.mv (.tmp 9)), none⟩, ⟨none, (.store 5 (.tmp 4) (.tmp 11)), none⟩]
abbrev A46r6 : List AIns := [⟨(some 12), (.mv (.tmp 3)), none⟩, ⟨(some 13), (.bin .eql (.tmp 12) (.cst (.int .i64 0))), none⟩, ⟨(some 14), (.mv (.tmp 13)), none⟩, ⟨(some 15), (.faddr 0 (.tmp 4)), (some (14, true))⟩, ⟨(some 16), (.load false 1 (.tmp 15)), (some (14, true))⟩, ⟨(some 17), (.bin .neq (.tmp 16) (.cst (.int .i64 (-1)))), (some (14, true))⟩, ⟨(some 18), (.pick (.tmp 14) (.tmp 17) (.cst (.bool false))), none⟩, ⟨(some 19), (.mv (.tmp 18)), none⟩, ⟨(some 20), (.mv (.tmp 3)), (some (19, false))⟩, ⟨(some 21), (.bin .gtr (.tmp 20) (.cst (.int .i64 0))), (some (19, false))⟩, ⟨(some 22), (.mv (.tmp 21)), (some (19, false))⟩, ⟨(some 23), (.faddr 0 (.tmp 4)), (some (22, true))⟩, ⟨(some 24), (.load false 1 (.tmp 23)), (some (22, true))⟩, ⟨(some 25), (.bin .lss (.tmp 24) (.cst (.int .i64 0))), (some (22, true))⟩, ⟨(some 26), (.mv (.tmp 25)), (some (22, true))⟩, ⟨(some 27), (.faddr 0 (.tmp 4)), (some (26, false))⟩, ⟨(some 28), (.load false 1 (.tmp 27)), (some (26, false))⟩, ⟨(some 29), (.mv (.tmp 3)), (some (26, false))⟩, ⟨(some 30), (.bin .geq (.tmp 28) (.tmp 29)), (some (26, false))⟩, ⟨(some 31), (.pick (.tmp 26) (.cst (.bool true)) (.tmp 30)), (some (22, true))⟩, ⟨(some 32), (.pick (.tmp 22) (.tmp 31) (.cst (.bool false))), (some (19, false))⟩, ⟨(some 33), (.pick (.tmp 19) (.cst (.bool true)) (.tmp 32)), none⟩]
abbrev A46r7 : List AIns := [⟨(some 2), (.mv (.cst (.bool false))), none⟩]
abbrev A46c8 : ACode := (.seq (.reg A46r5 [3, 4, 5, 6, 7]) (.seq (.reg A46r6 [5, 6, 7, 33]) (.cond (.tmp 33) [] (.seq (.reg A46r7 [2]) .ret) [5, 6, 7] .skip)))
abbrev A46r9 : List AIns := [⟨(some 34), (.bin .add (.tmp 7) (.cst (.int .i64 1))), none⟩, ⟨(some 7), (.mv (.tmp 34)), none⟩]
abbrev A46l3 : ACode := (.seq (.reg A46r4 [5, 6, 7, 8]) (.seq (.cond (.tmp 8) [5, 6, 7] .skip [] (.exit 0)) (.seq (.block 1 A46c8) (.reg A46r9 [5, 6, 7]))))
abbrev A46r10 : List AIns := [⟨(some 2), (.mv (.cst (.bool true))), none⟩]
def A46 : AFun := ⟨35, 1, [(.tmp 2)], (.seq (.reg A46r1 [0]) (.seq (.seq (.reg A46r2 [5, 6, 7]) (.block 0 (.loop A46l3))) (.seq (.reg A46r10 [2]) .ret)))⟩
theorem A46c : compF Try.prog Try.f46 = some A46 := by kernel_rfl
theorem A46k : Callable Try.prog 46 := fun a w => Try.call46 a w
theorem A46p {ds : List D} {r : D} (hl : ds.length ≤ A46.nt) (hw : W Try.prog A46.code (Fin A46.results r) ⟨argEnv 0 ds, fun _ => none⟩) : PCon Try.prog 46 ds r := pcon_of_W mixed Try.func46 A46k A46c hl hw
/- estovers/accounts.amounts -/
abbrev A47r1 : List AIns := [⟨(some 2), (.mv (.cst (.bool false))), none⟩]
abbrev A47r2 : List AIns := [⟨(some 5), (.mv (.tmp 0)), none⟩, ⟨(some 6), (.len (.tmp 5)), none⟩, ⟨(some 7), (.mv (.cst (.int .i64 0))), none⟩]
abbrev A47r4 : List AIns := [⟨(some 8), (.bin .lss (.tmp 7) (.tmp 6)), none⟩]
abbrev A47r5 : List AIns := [⟨(some 9), (.iaddr 5 (.tmp 5) (.tmp 7)), none⟩, ⟨(some 10), (.load true 5 (.tmp 9)), none⟩, ⟨(some 4), (.alloc [(.int .i64 0), (.int .i64 0), (.int .i64 0), (.int .i64 0), (.int .i64 0)]), none⟩, ⟨none, (.store 5 (.tmp 4) (.tmp 10)), none⟩]
abbrev A47r6 : List AIns := [⟨(some 11), (.faddr 1 (.tmp 4)), none⟩, ⟨(some 12), (.load false 1 (.tmp 11)), none⟩, ⟨(some 13), (.call (.fnc 67) [(.tmp 12)]), none⟩, ⟨(some 14), (.un .not (.tmp 13)), none⟩, ⟨(some 15), (.mv (.tmp 14)), none⟩, ⟨(some 16), (.faddr 2 (.tmp 4)), (some (15, false))⟩, ⟨(some 17), (.load false 1 (.tmp 16)), (some (15, false))⟩, ⟨(some 18), (.call (.fnc 67) [(.tmp 17)]), (some (15, false))⟩, ⟨(some 19), (.un .not (.tmp 18)), (some (15, false))⟩, ⟨(some 20), (.pick (.tmp 15) (.cst (.bool true)) (.tmp 19)), none⟩, ⟨(some 21), (.mv (.tmp 20)), none⟩, ⟨(some 22), (.faddr 3 (.tmp 4)), (some (21, false))⟩, ⟨(some 23), (.load false 1 (.tmp 22)), (some (21, false))⟩, ⟨(some 24), (.call (.fnc 67) [(.tmp 23)]), (some (21, false))⟩, ⟨(some 25), (.un .not (.tmp 24)), (some (21, false))⟩, ⟨(some 26), (.pick (.tmp 21) (.cst (.bool true)) (.tmp 25)), none⟩, ⟨(some 27), (.mv (.tmp 26)), none⟩, ⟨(some 28), (.faddr 4 (.tmp 4)), (some (27, false))⟩, ⟨(some 29), (.load false 1 (.tmp 28)), (some (27, false))⟩, ⟨(some 30), (.call (.fnc 67) [(.tmp 29)]), (some (27, false))⟩, ⟨(some 31), (.un .not (.tmp 30)), (some (27, false))⟩, ⟨(some 32), (.pick (.tmp 27) (.cst (.bool true)) (.tmp 31)), none⟩]
abbrev A47r7 : List AIns := [⟨(some 2), (.mv (.cst (.bool false))), none⟩]
abbrev A47c8 : ACode := (.seq (.reg A47r5 [0, 4, 5, 6, 7]) (.seq (.reg A47r6 [0, 5, 6, 7, 32]) (.cond (.tmp 32) [] (.seq (.reg A47r7 [2]) .ret) [0, 5, 6, 7] .skip)))
abbrev A47r9 : List AIns := [⟨(some 33), (.bin .add (.tmp 7) (.cst (.int .i64 1))), none⟩, ⟨(some 7), (.mv (.tmp 33)), none⟩]
abbrev A47l3 : ACode := (.seq (.reg A47r4 [0, 5, 6, 7, 8]) (.seq (.cond (.tmp 8) [0, 5, 6, 7] .skip [0] (.exit 0)) (.seq (.block 1 A47c8) (.reg A47r9 [0, 5, 6, 7]))))
abbrev A47r10 : List AIns := [⟨(some 34), (.mv (.tmp 0)), none⟩, ⟨(some 35), (.iaddr 5 (.tmp 34) (.cst (.int .i64 0))), none⟩, ⟨(some 36), (.faddr 2 (.tmp 35)), none⟩, ⟨(some 37), (.load false 1 (.tmp 36)), none⟩, ⟨(some 38), (.bin .eql (.tmp 37) (.cst (.int .i64 0))), none⟩, ⟨(some 39), (.mv (.tmp 38)), none⟩, ⟨(some 40), (.mv (.tmp 0)), (some (39, true))⟩, ⟨(some 41), (.iaddr 5 (.tmp 40) (.cst (.int .i64 0))), (some (39, true))⟩, ⟨(some 42), (.faddr 3 (.tmp 41)), (some (39, true))⟩, ⟨(some 43), (.load false 1 (.tmp 42)), (some (39, true))⟩, ⟨(some 44), (.bin .eql (.tmp 43) (.cst (.int .i64 0))), (some (39, true))⟩, ⟨(some 45), (.pick (.tmp 39) (.tmp 44) (.cst (.bool false))), none⟩, ⟨(some 2), (.mv (.tmp 45)), none⟩]
def A47 : AFun := ⟨46, 1, [(.tmp 2)], (.seq (.reg A47r1 [0]) (.seq (.seq (.reg A47r2 [0, 5, 6, 7]) (.block 0 (.loop A47l3))) (.seq (.reg A47r10 [2]) .ret)))⟩
theorem A47c : compF Try.prog Try.f47 = some A47 := by kernel_rfl
theorem A47k : Callable Try.prog 47 := fun a w => Try.call47 a w
theorem A47p {ds : List D} {r : D} (hl : ds.length ≤ A47.nt) (hw : W Try.prog A47.code (Fin A47.results r) ⟨argEnv 0 ds, fun _ => none⟩) : PCon Try.prog 47 ds r := pcon_of_W mixed Try.func47 A47k A47c hl hw
/- slices.ContainsFunc[[]estovers/api.Account,estovers/api.Account] -/
abbrev A48r1 : List AIns := [⟨(some 4), (.mv (.cst (.bool false))), none⟩]
abbrev A48r2 : List AIns := [⟨(some 5), (.mv (.tmp 0)), none⟩, ⟨(some 6), (.mv (.tmp 1)), none⟩, ⟨(some 7), (.call (.fnc 68) [(.tmp 5), (.tmp 6)]), none⟩, ⟨(some 8), (.bin .geq (.tmp 7) (.cst (.int .i64 0))), none⟩, ⟨(some 4), (.mv (.tmp 8)), none⟩]
def A48 : AFun := ⟨9, 2, [(.tmp 4)], (.seq (.reg A48r1 [0, 1]) (.seq (.reg A48r2 [4]) .ret))⟩
theorem A48c : compF Try.prog Try.f48 = some A48 := by kernel_rfl
theorem A48k : Callable Try.prog 48 := fun a w => Try.call48 a w
theorem A48p {ds : List D} {r : D} (hl : ds.length ≤ A48.nt) (hw : W Try.prog A48.code (Fin A48.results r) ⟨argEnv 0 ds, fun _ => none⟩) : PCon Try.prog 48 ds r := pcon_of_W mixed Try.func48 A48k A48c hl hw
/- estovers/accounts.Check$1 -/
abbrev A49r1 : List AIns := [⟨(some 1), (.box (.tmp 0)), none⟩, ⟨(some 2), (.mv (.cst (.bool false))), none⟩]
abbrev A49r2 : List AIns := [⟨(some 3), (.faddr 1 (.tmp 1)), none⟩, ⟨(some 4), (.load false 1 (.tmp 3)), none⟩, ⟨(some 5), (.faddr 4 (.tmp 1)), none⟩, ⟨(some 6), (.load false 1 (.tmp 5)), none⟩, ⟨(some 7), (.bin .gtr (.tmp 4) (.tmp 6)), none⟩, ⟨(some 2), (.mv (.tmp 7)), none⟩]
def A49 : AFun := ⟨8, 1, [(.tmp 2)], (.seq (.reg A49r1 [1]) (.seq (.reg A49r2 [2]) .ret))⟩
theorem A49c : compF Try.prog Try.f49 = some A49 := by kernel_rfl
theorem A49k : Callable Try.prog 49 := fun a w => Try.call49 a w
theorem A49p {ds : List D} {r : D} (hl : ds.length ≤ A49.nt) (hw : W Try.prog A49.code (Fin A49.results r) ⟨argEnv 0 ds, fun _ => none⟩) : PCon Try.prog 49 ds r := pcon_of_W mixed Try.func49 A49k A49c hl hw
/- slices.Min[[]int,int] -/
abbrev A50r1 : List AIns := [⟨(some 2), (.mv (.cst (.int .i64 0))), none⟩]
abbrev A50r2 : List AIns := [⟨(some 5), (.mv (.tmp 0)), none⟩, ⟨(some 6), (.len (.tmp 5)), none⟩, ⟨(some 7), (.bin .lss (.tmp 6) (.cst (.int .i64 1))), none⟩]
abbrev A50r3 : List AIns := [⟨(some 8), .bad, none⟩, ⟨none, .bad, none⟩]
abbrev A50r4 : List AIns := [⟨(some 9), (.mv (.tmp 0)), none⟩, ⟨(some 10), (.iaddr 1 (.tmp 9) (.cst (.int .i64 0))), none⟩, ⟨(some 11), (.load false 1 (.tmp 10)), none⟩, ⟨(some 3), (.mv (.tmp 11)), none⟩]
abbrev A50r5 : List AIns := [⟨(some 4), (.mv (.cst (.int .i64 1))), none⟩]
abbrev A50r7 : List AIns := [⟨(some 12), (.mv (.tmp 4)), none⟩, ⟨(some 13), (.mv (.tmp 0)), none⟩, ⟨(some 14), (.len (.tmp 13)), none⟩, ⟨(some 15), (.bin .lss (.tmp 12) (.tmp 14)), none⟩]
abbrev A50r8 : List AIns := [⟨(some 18), (.mv (.tmp 3)), none⟩, ⟨(some 19), (.mv (.tmp 0)), none⟩, ⟨(some 20), (.mv (.tmp 4)), none⟩, ⟨(some 21), (.iaddr 1 (.tmp 19) (.tmp 20)), none⟩, ⟨(some 22), (.load false 1 (.tmp 21)), none⟩, ⟨(some 23), (.mima false [(.tmp 18), (.tmp 22)]), none⟩, ⟨(some 3), (.mv (.tmp 23)), none⟩]
abbrev A50r9 : List AIns := [⟨(some 16), (.mv (.tmp 4)), none⟩, ⟨(some 17), (.bin .add (.tmp 16) (.cst (.int .i64 1))), none⟩, ⟨(some 4), (.mv (.tmp 17)), none⟩]
abbrev A50l6 : ACode := (.seq (.seq (.reg A50r7 [0, 3, 4, 15]) (.cond (.tmp 15) [0, 3, 4] .skip [3] (.exit 0))) (.seq (.block 1 (.reg A50r8 [0, 3, 4])) (.reg A50r9 [0, 3, 4])))
abbrev A50r10 : List AIns := [⟨(some 24), (.mv (.tmp 3)), none⟩, ⟨(some 2), (.mv (.tmp 24)), none⟩]
def A50 : AFun := ⟨25, 1, [(.tmp 2)], (.seq (.reg A50r1 [0]) (.seq (.seq (.reg A50r2 [0, 7]) (.cond (.tmp 7) [0] (.reg A50r3 [0]) [0] .skip)) (.seq (.reg A50r4 [0, 3]) (.seq (.seq (.reg A50r5 [0, 3, 4]) (.block 0 (.loop A50l6))) (.seq (.reg A50r10 [2]) .ret)))))⟩
theorem A50c : compF Try.prog Try.f50 = some A50 := by kernel_rfl
theorem A50k : Callable Try.prog 50 := fun a w => Try.call50 a w
theorem A50p {ds : List D} {r : D} (hl : ds.length ≤ A50.nt) (hw : W Try.prog A50.code (Fin A50.results r) ⟨argEnv 0 ds, fun _ => none⟩) : PCon Try.prog 50 ds r := pcon_of_W mixed Try.func50 A50k A50c hl hw
/- estovers/accounts.own -/
abbrev A51r1 : List AIns := [⟨(some 2), (.mv (.cst .nil)), none⟩]
abbrev A51r2 : List AIns := [⟨(some 6), (.mv (.tmp 0)), none⟩, ⟨(some 7), (.len (.tmp 6)), none⟩, ⟨(some 8), (.mkslice 1 8 [(.int .i64 0)] (.tmp 7) (.tmp 7)), none⟩, ⟨(some 3), (.mv (.tmp 8)), none⟩]
abbrev A51r3 : List AIns := [⟨(some 9), (.mv (.tmp 0)), none⟩, ⟨(some 10), (.len (.tmp 9)), none⟩, ⟨(some 11), (.mv (.cst (.int .i64 0))), none⟩]
abbrev A51r5 : List AIns := [⟨(some 12), (.bin .lss (.tmp 11) (.tmp 10)), none⟩]
abbrev A51r6 : List AIns := [⟨(some 13), (.mv (.tmp 11)), none⟩, ⟨(some 14), (.iaddr 5 (.tmp 9) (.tmp 11)), none⟩, ⟨(some 15), (.load true 5 (.tmp 14)), none⟩, ⟨(some 5), (.alloc [(.int .i64 0), (.int .i64 0), (.int .i64 0), (.int .i64 0), (.int .i64 0)]), none⟩, ⟨(some 4), (.mv (.tmp 13)), none⟩, ⟨none, (.store 5 (.tmp 5) (.tmp 15)), none⟩]
abbrev A51d7 : List AIns := [⟨(some 16), (.mv (.tmp 3)), none⟩, ⟨(some 17), (.mv (.tmp 4)), none⟩, ⟨(some 18), (.iaddr 1 (.tmp 16) (.tmp 17)), none⟩, ⟨(some 19), (.load false 1 (.tmp 18)), none⟩, ⟨(some 20), (.faddr 1 (.tmp 5)), none⟩, ⟨(some 21), (.load false 1 (.tmp 20)), none⟩, ⟨(some 22), (.bin .add (.tmp 19) (.tmp 21)), none⟩, ⟨(some 23), (.iaddr 1 (.tmp 16) (.tmp 17)), none⟩, ⟨none, (.store 1 (.tmp 23) (.tmp 22)), none⟩]
abbrev A51d7p : List AIns := [⟨(some 16), (.mv (.tmp 3)), none⟩, ⟨(some 17), (.mv (.tmp 4)), none⟩, ⟨(some 18), (.iaddr 1 (.tmp 16) (.tmp 17)), none⟩, ⟨(some 19), (.load false 1 (.tmp 18)), none⟩, ⟨(some 20), (.faddr 1 (.tmp 5)), none⟩, ⟨(some 21), (.load false 1 (.tmp 20)), none⟩, ⟨(some 22), (.bin .add (.tmp 19) (.tmp 21)), none⟩, ⟨(some 23), (.iaddr 1 (.tmp 16) (.tmp 17)), none⟩]
abbrev A51r8 : List AIns := [⟨(some 24), (.mv (.tmp 4)), none⟩, ⟨(some 25), (.bin .gtr (.tmp 24) (.cst (.int .i64 0))), none⟩]
abbrev A51d9 : List AIns := [⟨(some 26), (.mv (.tmp 3)), none⟩, ⟨(some 27), (.faddr 0 (.tmp 5)), none⟩, ⟨(some 28), (.load false 1 (.tmp 27)), none⟩, ⟨(some 29), (.iaddr 1 (.tmp 26) (.tmp 28)), none⟩, ⟨(some 30), (.load false 1 (.tmp 29)), none⟩, ⟨(some 31), (.faddr 1 (.tmp 5)), none⟩, ⟨(some 32), (.load false 1 (.tmp 31)), none⟩, ⟨(some 33), (.bin .sub (.tmp 30) (.tmp 32)), none⟩, ⟨(some 34), (.iaddr 1 (.tmp 26) (.tmp 28)), none⟩, ⟨none, (.store 1 (.tmp 34) (.tmp 33)), none⟩]
abbrev A51d9p : List AIns := [⟨(some 26), (.mv (.tmp 3)), none⟩, ⟨(some 27), (.faddr 0 (.tmp 5)), none⟩, ⟨(some 28), (.load false 1 (.tmp 27)), none⟩, ⟨(some 29), (.iaddr 1 (.tmp 26) (.tmp 28)), none⟩, ⟨(some 30), (.load false 1 (.tmp 29)), none⟩, ⟨(some 31), (.faddr 1 (.tmp 5)), none⟩, ⟨(some 32), (.load false 1 (.tmp 31)), none⟩, ⟨(some 33), (.bin .sub (.tmp 30) (.tmp 32)), none⟩, ⟨(some 34), (.iaddr 1 (.tmp 26) (.tmp 28)), none⟩]
abbrev A51c10 : ACode := (.dreg A51d9 [[], [], [1], [0, 1, 2], [0, 1, 2, 3], [], [5], [0, 1, 2, 3, 4, 5, 6], [0, 1, 2, 3, 4, 5, 6, 7], [0, 1, 2, 3, 4, 5, 6, 7, 8]] [3, 9, 10, 11])
abbrev A51c11 : ACode := (.seq (.reg A51r6 [3, 4, 5, 9, 10, 11]) (.seq (.dreg A51d7 [[], [], [0, 1], [0, 1, 2], [], [4], [0, 1, 2, 3, 4, 5], [0, 1, 2, 3, 4, 5, 6], [0, 1, 2, 3, 4, 5, 6, 7]] [3, 4, 5, 9, 10, 11]) (.seq (.reg A51r8 [3, 5, 9, 10, 11, 25]) (.cond (.tmp 25) [3, 5, 9, 10, 11] A51c10 [3, 9, 10, 11] .skip))))
abbrev A51r12 : List AIns := [⟨(some 35), (.bin .add (.tmp 11) (.cst (.int .i64 1))), none⟩, ⟨(some 11), (.mv (.tmp 35)), none⟩]
abbrev A51l4 : ACode := (.seq (.reg A51r5 [3, 9, 10, 11, 12]) (.seq (.cond (.tmp 12) [3, 9, 10, 11] .skip [3] (.exit 0)) (.seq (.block 1 A51c11) (.reg A51r12 [3, 9, 10, 11]))))
abbrev A51r13 : List AIns := [⟨(some 36), (.mv (.tmp 3)), none⟩, ⟨(some 2), (.mv (.tmp 36)), none⟩]
def A51 : AFun := ⟨37, 1, [(.tmp 2)], (.seq (.reg A51r1 [0]) (.seq (.reg A51r2 [0, 3]) (.seq (.seq (.reg A51r3 [3, 9, 10, 11]) (.block 0 (.loop A51l4))) (.seq (.reg A51r13 [2]) .ret))))⟩
theorem A51c : compF Try.prog Try.f51 = some A51 := by kernel_rfl
theorem A51k : Callable Try.prog 51 := fun a w => Try.call51 a w
theorem A51p {ds : List D} {r : D} (hl : ds.length ≤ A51.nt) (hw : W Try.prog A51.code (Fin A51.results r) ⟨argEnv 0 ds, fun _ => none⟩) : PCon Try.prog 51 ds r := pcon_of_W mixed Try.func51 A51k A51c hl hw
/- estovers/grant.of -/
abbrev A52r1 : List AIns := [⟨(some 3), (.box (.tmp 1)), none⟩, ⟨(some 4), (.mv (.cst (.int .i64 0))), none⟩]
abbrev A52r2 : List AIns := [⟨(some 5), (.mv (.tmp 0)), none⟩, ⟨(some 6), (.mkfn 69 [] [(.tmp 3)]), none⟩, ⟨(some 7), (.call (.fnc 63) [(.tmp 5), (.tmp 6)]), none⟩, ⟨(some 4), (.mv (.tmp 7)), none⟩]
def A52 : AFun := ⟨8, 2, [(.tmp 4)], (.seq (.reg A52r1 [0, 3]) (.seq (.reg A52r2 [4]) .ret))⟩
theorem A52c : compF Try.prog Try.f52 = some A52 := by kernel_rfl
theorem A52k : Callable Try.prog 52 := fun a w => Try.call52 a w
theorem A52p {ds : List D} {r : D} (hl : ds.length ≤ A52.nt) (hw : W Try.prog A52.code (Fin A52.results r) ⟨argEnv 0 ds, fun _ => none⟩) : PCon Try.prog 52 ds r := pcon_of_W mixed Try.func52 A52k A52c hl hw
/- estovers/estoversref21.at -/
abbrev A53r1 : List AIns := [⟨(some 4), (.mv (.cst (.int .i64 0))), none⟩]
abbrev A53r2 : List AIns := [⟨(some 5), (.mv (.cst (.int .i64 0))), none⟩]
abbrev A53r4 : List AIns := [⟨(some 6), (.mv (.tmp 5)), none⟩, ⟨(some 7), (.mv (.tmp 0)), none⟩, ⟨(some 8), (.len (.tmp 7)), none⟩, ⟨(some 9), (.bin .lss (.tmp 6) (.tmp 8)), none⟩]
abbrev A53r5 : List AIns := [⟨(some 12), (.mv (.tmp 0)), none⟩, ⟨(some 13), (.mv (.tmp 5)), none⟩, ⟨(some 14), (.iaddr 4 (.tmp 12) (.tmp 13)), none⟩, ⟨(some 15), (.faddr 0 (.tmp 14)), none⟩, ⟨(some 16), (.load false 1 (.tmp 15)), none⟩, ⟨(some 17), (.mv (.tmp 1)), none⟩, ⟨(some 18), (.bin .eql (.tmp 16) (.tmp 17)), none⟩]
abbrev A53r6 : List AIns := [⟨(some 19), (.mv (.tmp 5)), none⟩, ⟨(some 4), (.mv (.tmp 19)), none⟩]
abbrev A53c7 : ACode := (.seq (.reg A53r5 [0, 1, 5, 18]) (.cond (.tmp 18) [5] (.seq (.reg A53r6 [4]) .ret) [0, 1, 5] .skip))
abbrev A53r8 : List AIns := [⟨(some 10), (.mv (.tmp 5)), none⟩, ⟨(some 11), (.bin .add (.tmp 10) (.cst (.int .i64 1))), none⟩, ⟨(some 5), (.mv (.tmp 11)), none⟩]
abbrev A53l3 : ACode := (.seq (.seq (.reg A53r4 [0, 1, 5, 9]) (.cond (.tmp 9) [0, 1, 5] .skip [] (.exit 0))) (.seq (.block 1 A53c7) (.reg A53r8 [0, 1, 5])))
abbrev A53r9 : List AIns := [⟨(some 4), (.mv (.cst (.int .i64 (-1)))), none⟩]
def A53 : AFun := ⟨20, 2, [(.tmp 4)], (.seq (.reg A53r1 [0, 1]) (.seq (.seq (.reg A53r2 [0, 1, 5]) (.block 0 (.loop A53l3))) (.seq (.reg A53r9 [4]) .ret)))⟩
theorem A53c : compF Try.prog Try.f53 = some A53 := by kernel_rfl
theorem A53k : Callable Try.prog 53 := fun a w => Try.call53 a w
theorem A53p {ds : List D} {r : D} (hl : ds.length ≤ A53.nt) (hw : W Try.prog A53.code (Fin A53.results r) ⟨argEnv 0 ds, fun _ => none⟩) : PCon Try.prog 53 ds r := pcon_of_W mixed Try.func53 A53k A53c hl hw
/- slices.Clone[[]estovers/api.Ask,estovers/api.Ask] -/
abbrev A54r1 : List AIns := [⟨(some 2), (.mv (.cst .nil)), none⟩]
abbrev A54r2 : List AIns := [⟨(some 3), (.mv (.tmp 0)), none⟩, ⟨(some 4), (.eqN false (.tmp 3)), none⟩]
abbrev A54r3 : List AIns := [⟨(some 2), (.mv (.cst .nil)), none⟩]
abbrev A54r4 : List AIns := [⟨(some 5), (.buildS 4 [(.int .i64 0), (.int .i64 0), (.int .i64 0), (.int .i64 0)] 0 []), none⟩, ⟨(some 6), (.mv (.tmp 0)), none⟩, ⟨(some 7), (.append 4 32 (.tmp 5) (.tmp 6)), none⟩, ⟨(some 2), (.mv (.tmp 7)), none⟩]
def A54 : AFun := ⟨8, 1, [(.tmp 2)], (.seq (.reg A54r1 [0]) (.seq (.seq (.reg A54r2 [0, 4]) (.cond (.tmp 4) [] (.seq (.reg A54r3 [2]) .ret) [0] .skip)) (.seq (.reg A54r4 [2]) .ret)))⟩
theorem A54c : compF Try.prog Try.f54 = some A54 := by kernel_rfl
theorem A54k : Callable Try.prog 54 := fun a w => Try.call54 a w
theorem A54p {ds : List D} {r : D} (hl : ds.length ≤ A54.nt) (hw : W Try.prog A54.code (Fin A54.results r) ⟨argEnv 0 ds, fun _ => none⟩) : PCon Try.prog 54 ds r := pcon_of_W mixed Try.func54 A54k A54c hl hw
/- slices.Delete[[]estovers/api.Ask,estovers/api.Ask] -/
/- estovers/accounts.Uncharge -/
/- (*estovers/estoverstop.bQueue).right -/
/- estovers/grant.in -/
abbrev A58r1 : List AIns := [⟨(some 2), (.mv (.cst (.bool false))), none⟩]
abbrev A58r2 : List AIns := [⟨(some 3), (.mv (.tmp 0)), none⟩, ⟨(some 4), (.bin .geq (.tmp 3) (.cst (.int .i64 0))), none⟩, ⟨(some 5), (.mv (.tmp 4)), none⟩, ⟨(some 6), (.mv (.tmp 0)), (some (5, true))⟩, ⟨(some 7), (.bin .leq (.tmp 6) (.cst (.int .i64 1048576))), (some (5, true))⟩, ⟨(some 8), (.pick (.tmp 5) (.tmp 7) (.cst (.bool false))), none⟩, ⟨(some 2), (.mv (.tmp 8)), none⟩]
def A58 : AFun := ⟨9, 1, [(.tmp 2)], (.seq (.reg A58r1 [0]) (.seq (.reg A58r2 [2]) .ret))⟩
theorem A58c : compF Try.prog Try.f58 = some A58 := by kernel_rfl
theorem A58k : Callable Try.prog 58 := fun a w => Try.call58 a w
theorem A58p {ds : List D} {r : D} (hl : ds.length ≤ A58.nt) (hw : W Try.prog A58.code (Fin A58.results r) ⟨argEnv 0 ds, fun _ => none⟩) : PCon Try.prog 58 ds r := pcon_of_W mixed Try.func58 A58k A58c hl hw
/- estovers/accounts.is -/
abbrev A59r1 : List AIns := [⟨(some 4), (.mv (.cst (.bool false))), none⟩]
abbrev A59r2 : List AIns := [⟨(some 5), (.mv (.tmp 0)), none⟩, ⟨(some 6), (.call (.fnc 22) [(.tmp 5)]), none⟩, ⟨(some 7), (.bin .eql (.tmp 6) (.cst (.int .i64 0))), none⟩, ⟨(some 8), (.mv (.tmp 7)), none⟩, ⟨(some 9), (.mv (.tmp 1)), (some (8, true))⟩, ⟨(some 10), (.bin .geq (.tmp 9) (.cst (.int .i64 0))), (some (8, true))⟩, ⟨(some 11), (.pick (.tmp 8) (.tmp 10) (.cst (.bool false))), none⟩, ⟨(some 12), (.mv (.tmp 11)), none⟩, ⟨(some 13), (.mv (.tmp 1)), (some (12, true))⟩, ⟨(some 14), (.mv (.tmp 0)), (some (12, true))⟩, ⟨(some 15), (.len (.tmp 14)), (some (12, true))⟩, ⟨(some 16), (.bin .lss (.tmp 13) (.tmp 15)), (some (12, true))⟩, ⟨(some 17), (.pick (.tmp 12) (.tmp 16) (.cst (.bool false))), none⟩, ⟨(some 4), (.mv (.tmp 17)), none⟩]
def A59 : AFun := ⟨18, 2, [(.tmp 4)], (.seq (.reg A59r1 [0, 1]) (.seq (.reg A59r2 [4]) .ret))⟩
theorem A59c : compF Try.prog Try.f59 = some A59 := by kernel_rfl
theorem A59k : Callable Try.prog 59 := fun a w => Try.call59 a w
theorem A59p {ds : List D} {r : D} (hl : ds.length ≤ A59.nt) (hw : W Try.prog A59.code (Fin A59.results r) ⟨argEnv 0 ds, fun _ => none⟩) : PCon Try.prog 59 ds r := pcon_of_W mixed Try.func59 A59k A59c hl hw
/- estovers/estoversref19.in -/
abbrev A60r1 : List AIns := [⟨(some 2), (.mv (.cst (.bool false))), none⟩]
abbrev A60r2 : List AIns := [⟨(some 3), (.mv (.tmp 0)), none⟩, ⟨(some 4), (.bin .geq (.tmp 3) (.cst (.int .i64 0))), none⟩, ⟨(some 5), (.mv (.tmp 4)), none⟩, ⟨(some 6), (.mv (.tmp 0)), (some (5, true))⟩, ⟨(some 7), (.bin .leq (.tmp 6) (.cst (.int .i64 1048576))), (some (5, true))⟩, ⟨(some 8), (.pick (.tmp 5) (.tmp 7) (.cst (.bool false))), none⟩, ⟨(some 2), (.mv (.tmp 8)), none⟩]
def A60 : AFun := ⟨9, 1, [(.tmp 2)], (.seq (.reg A60r1 [0]) (.seq (.reg A60r2 [2]) .ret))⟩
theorem A60c : compF Try.prog Try.f60 = some A60 := by kernel_rfl
theorem A60k : Callable Try.prog 60 := fun a w => Try.call60 a w
theorem A60p {ds : List D} {r : D} (hl : ds.length ≤ A60.nt) (hw : W Try.prog A60.code (Fin A60.results r) ⟨argEnv 0 ds, fun _ => none⟩) : PCon Try.prog 60 ds r := pcon_of_W mixed Try.func60 A60k A60c hl hw
/- estovers/estoversref19.kids -/
abbrev A61r1 : List AIns := [⟨(some 4), (.mv (.cst (.int .i64 0))), none⟩]
abbrev A61r2 : List AIns := [⟨(some 5), (.mv (.cst (.int .i64 0))), none⟩]
abbrev A61r3 : List AIns := [⟨(some 6), (.mv (.cst (.int .i64 1))), none⟩]
abbrev A61r5 : List AIns := [⟨(some 7), (.mv (.tmp 6)), none⟩, ⟨(some 8), (.mv (.tmp 0)), none⟩, ⟨(some 9), (.len (.tmp 8)), none⟩, ⟨(some 10), (.bin .lss (.tmp 7) (.tmp 9)), none⟩]
abbrev A61r6 : List AIns := [⟨(some 13), (.mv (.tmp 0)), none⟩, ⟨(some 14), (.mv (.tmp 6)), none⟩, ⟨(some 15), (.iaddr 5 (.tmp 13) (.tmp 14)), none⟩, ⟨(some 16), (.faddr 0 (.tmp 15)), none⟩, ⟨(some 17), (.load false 1 (.tmp 16)), none⟩, ⟨(some 18), (.mv (.tmp 1)), none⟩, ⟨(some 19), (.bin .eql (.tmp 17) (.tmp 18)), none⟩]
abbrev A61r7 : List AIns := [⟨(some 20), (.mv (.tmp 5)), none⟩, ⟨(some 21), (.mv (.tmp 0)), none⟩, ⟨(some 22), (.mv (.tmp 6)), none⟩, ⟨(some 23), (.iaddr 5 (.tmp 21) (.tmp 22)), none⟩, ⟨(some 24), (.faddr 1 (.tmp 23)), none⟩, ⟨(some 25), (.load false 1 (.tmp 24)), none⟩, ⟨(some 26), (.bin .add (.tmp 20) (.tmp 25)), none⟩, ⟨(some 5), (.mv (.tmp 26)), none⟩]
abbrev A61c8 : ACode := (.seq (.reg A61r6 [0, 1, 5, 6, 19]) (.cond (.tmp 19) [0, 1, 5, 6] (.reg A61r7 [0, 1, 5, 6]) [0, 1, 5, 6] .skip))
abbrev A61r9 : List AIns := [⟨(some 11), (.mv (.tmp 6)), none⟩, ⟨(some 12), (.bin .add (.tmp 11) (.cst (.int .i64 1))), none⟩, ⟨(some 6), (.mv (.tmp 12)), none⟩]
abbrev A61l4 : ACode := (.seq (.seq (.reg A61r5 [0, 1, 5, 6, 10]) (.cond (.tmp 10) [0, 1, 5, 6] .skip [5] (.exit 0))) (.seq (.block 1 A61c8) (.reg A61r9 [0, 1, 5, 6])))
abbrev A61r10 : List AIns := [⟨(some 27), (.mv (.tmp 5)), none⟩, ⟨(some 4), (.mv (.tmp 27)), none⟩]
def A61 : AFun := ⟨28, 2, [(.tmp 4)], (.seq (.reg A61r1 [0, 1]) (.seq (.reg A61r2 [0, 1, 5]) (.seq (.seq (.reg A61r3 [0, 1, 5, 6]) (.block 0 (.loop A61l4))) (.seq (.reg A61r10 [4]) .ret))))⟩
theorem A61c : compF Try.prog Try.f61 = some A61 := by kernel_rfl
theorem A61k : Callable Try.prog 61 := fun a w => Try.call61 a w
theorem A61p {ds : List D} {r : D} (hl : ds.length ≤ A61.nt) (hw : W Try.prog A61.code (Fin A61.results r) ⟨argEnv 0 ds, fun _ => none⟩) : PCon Try.prog 61 ds r := pcon_of_W mixed Try.func61 A61k A61c hl hw
/- estovers/estoversref19.has -/
abbrev A62r1 : List AIns := [⟨(some 4), (.mv (.cst (.bool false))), none⟩]
abbrev A62r2 : List AIns := [⟨(some 5), (.mv (.tmp 0)), none⟩, ⟨(some 6), (.call (.fnc 37) [(.tmp 5)]), none⟩, ⟨(some 7), (.bin .eql (.tmp 6) (.cst (.int .i64 0))), none⟩, ⟨(some 8), (.mv (.tmp 7)), none⟩, ⟨(some 9), (.mv (.tmp 1)), (some (8, true))⟩, ⟨(some 10), (.bin .geq (.tmp 9) (.cst (.int .i64 0))), (some (8, true))⟩, ⟨(some 11), (.pick (.tmp 8) (.tmp 10) (.cst (.bool false))), none⟩, ⟨(some 12), (.mv (.tmp 11)), none⟩, ⟨(some 13), (.mv (.tmp 1)), (some (12, true))⟩, ⟨(some 14), (.mv (.tmp 0)), (some (12, true))⟩, ⟨(some 15), (.len (.tmp 14)), (some (12, true))⟩, ⟨(some 16), (.bin .lss (.tmp 13) (.tmp 15)), (some (12, true))⟩, ⟨(some 17), (.pick (.tmp 12) (.tmp 16) (.cst (.bool false))), none⟩, ⟨(some 4), (.mv (.tmp 17)), none⟩]
def A62 : AFun := ⟨18, 2, [(.tmp 4)], (.seq (.reg A62r1 [0, 1]) (.seq (.reg A62r2 [4]) .ret))⟩
theorem A62c : compF Try.prog Try.f62 = some A62 := by kernel_rfl
theorem A62k : Callable Try.prog 62 := fun a w => Try.call62 a w
theorem A62p {ds : List D} {r : D} (hl : ds.length ≤ A62.nt) (hw : W Try.prog A62.code (Fin A62.results r) ⟨argEnv 0 ds, fun _ => none⟩) : PCon Try.prog 62 ds r := pcon_of_W mixed Try.func62 A62k A62c hl hw
/- slices.IndexFunc[[]estovers/api.Ask,estovers/api.Ask] -/
abbrev A63r1 : List AIns := [⟨(some 4), (.mv (.cst (.int .i64 0))), none⟩]
abbrev A63r2 : List AIns := [⟨(some 6), (.mv (.tmp 0)), none⟩, ⟨(some 7), (.len (.tmp 6)), none⟩, ⟨(some 8), (.mv (.cst (.int .i64 0))), none⟩]
abbrev A63r4 : List AIns := [⟨(some 9), (.bin .lss (.tmp 8) (.tmp 7)), none⟩]
abbrev A63r5 : List AIns := [⟨(some 10), (.mv (.tmp 8)), none⟩, ⟨(some 5), (.mv (.tmp 10)), none⟩]
abbrev A63r6 : List AIns := [⟨(some 11), (.mv (.tmp 1)), none⟩, ⟨(some 12), (.mv (.tmp 0)), none⟩, ⟨(some 13), (.mv (.tmp 5)), none⟩, ⟨(some 14), (.iaddr 4 (.tmp 12) (.tmp 13)), none⟩, ⟨(some 15), (.load true 4 (.tmp 14)), none⟩, ⟨(some 16), (.call (.tmp 11) [(.tmp 15)]), none⟩]
abbrev A63r7 : List AIns := [⟨(some 17), (.mv (.tmp 5)), none⟩, ⟨(some 4), (.mv (.tmp 17)), none⟩]
abbrev A63c8 : ACode := (.seq (.reg A63r5 [0, 1, 5, 7, 8]) (.seq (.reg A63r6 [0, 1, 5, 7, 8, 16]) (.cond (.tmp 16) [5] (.seq (.reg A63r7 [4]) .ret) [0, 1, 7, 8] .skip)))
abbrev A63r9 : List AIns := [⟨(some 18), (.bin .add (.tmp 8) (.cst (.int .i64 1))), none⟩, ⟨(some 8), (.mv (.tmp 18)), none⟩]
abbrev A63l3 : ACode := (.seq (.reg A63r4 [0, 1, 7, 8, 9]) (.seq (.cond (.tmp 9) [0, 1, 7, 8] .skip [] (.exit 0)) (.seq (.block 1 A63c8) (.reg A63r9 [0, 1, 7, 8]))))
abbrev A63r10 : List AIns := [⟨(some 4), (.mv (.cst (.int .i64 (-1)))), none⟩]
def A63 : AFun := ⟨19, 2, [(.tmp 4)], (.seq (.reg A63r1 [0, 1]) (.seq (.seq (.reg A63r2 [0, 1, 7, 8]) (.block 0 (.loop A63l3))) (.seq (.reg A63r10 [4]) .ret)))⟩
theorem A63c : compF Try.prog Try.f63 = some A63 := by kernel_rfl
theorem A63k : Callable Try.prog 63 := fun a w => Try.call63 a w
theorem A63p {ds : List D} {r : D} (hl : ds.length ≤ A63.nt) (hw : W Try.prog A63.code (Fin A63.results r) ⟨argEnv 0 ds, fun _ => none⟩) : PCon Try.prog 63 ds r := pcon_of_W mixed Try.func63 A63k A63c hl hw
/- estovers/accounts.request -/
abbrev A64r1 : List AIns := [⟨(some 6), (.mv (.cst (.int .i64 0))), none⟩]
abbrev A64r2 : List AIns := [⟨(some 8), (.mv (.tmp 0)), none⟩, ⟨(some 9), (.call (.fnc 22) [(.tmp 8)]), none⟩, ⟨(some 7), (.mv (.tmp 9)), none⟩]
abbrev A64r3 : List AIns := [⟨(some 11), (.mv (.tmp 7)), none⟩, ⟨(some 12), (.bin .neq (.tmp 11) (.cst (.int .i64 0))), none⟩, ⟨(some 10), (.mv (.tmp 12)), none⟩]
abbrev A64r4 : List AIns := [⟨(some 13), (.mv (.tmp 7)), none⟩, ⟨(some 6), (.mv (.tmp 13)), none⟩]
abbrev A64r5 : List AIns := [⟨(some 15), (.mv (.tmp 0)), none⟩, ⟨(some 16), (.mv (.tmp 1)), none⟩, ⟨(some 17), (.call (.fnc 59) [(.tmp 15), (.tmp 16)]), none⟩, ⟨(some 18), (.un .not (.tmp 17)), none⟩, ⟨(some 14), (.mv (.tmp 18)), none⟩]
abbrev A64r6 : List AIns := [⟨(some 6), (.mv (.cst (.int .i64 6))), none⟩]
abbrev A64r7 : List AIns := [⟨(some 20), (.mv (.tmp 2)), none⟩, ⟨(some 21), (.call (.fnc 67) [(.tmp 20)]), none⟩, ⟨(some 22), (.un .not (.tmp 21)), none⟩, ⟨(some 19), (.mv (.tmp 22)), none⟩]
abbrev A64r8 : List AIns := [⟨(some 6), (.mv (.cst (.int .i64 2))), none⟩]
abbrev A64c9 : ACode := (.seq (.reg A64r7 [19]) (.cond (.tmp 19) [] (.seq (.reg A64r8 [6]) .ret) [] .skip))
abbrev A64c10 : ACode := (.seq (.reg A64r5 [2, 14]) (.cond (.tmp 14) [] (.seq (.reg A64r6 [6]) .ret) [2] A64c9))
abbrev A64c11 : ACode := (.seq (.reg A64r3 [0, 1, 2, 7, 10]) (.cond (.tmp 10) [7] (.seq (.reg A64r4 [6]) .ret) [0, 1, 2] A64c10))
abbrev A64r12 : List AIns := [⟨(some 6), (.mv (.cst (.int .i64 0))), none⟩]
def A64 : AFun := ⟨23, 3, [(.tmp 6)], (.seq (.reg A64r1 [0, 1, 2]) (.seq (.reg A64r2 [0, 1, 2, 7]) (.seq (.block 0 A64c11) (.seq (.reg A64r12 [6]) .ret))))⟩
theorem A64c : compF Try.prog Try.f64 = some A64 := by kernel_rfl
theorem A64k : Callable Try.prog 64 := fun a w => Try.call64 a w
theorem A64p {ds : List D} {r : D} (hl : ds.length ≤ A64.nt) (hw : W Try.prog A64.code (Fin A64.results r) ⟨argEnv 0 ds, fun _ => none⟩) : PCon Try.prog 64 ds r := pcon_of_W mixed Try.func64 A64k A64c hl hw
/- estovers/accounts.add -/
abbrev A65r1 : List AIns := [⟨(some 6), (.mv (.cst .nil)), none⟩]
abbrev A65r2 : List AIns := [⟨(some 10), (.mv (.tmp 0)), none⟩, ⟨(some 11), (.call (.fnc 42) [(.tmp 10)]), none⟩, ⟨(some 7), (.mv (.tmp 11)), none⟩]
abbrev A65r3 : List AIns := [⟨(some 12), (.mv (.tmp 0)), none⟩, ⟨(some 13), (.mv (.tmp 1)), none⟩, ⟨(some 14), (.call (.fnc 35) [(.tmp 12), (.tmp 13)]), none⟩, ⟨(some 15), (.len (.tmp 14)), none⟩, ⟨(some 16), (.mv (.cst (.int .i64 0))), none⟩]
abbrev A65r5 : List AIns := [⟨(some 17), (.bin .lss (.tmp 16) (.tmp 15)), none⟩]
abbrev A65r6 : List AIns := [⟨(some 18), (.iaddr 1 (.tmp 14) (.tmp 16)), none⟩, ⟨(some 19), (.load false 1 (.tmp 18)), none⟩, ⟨(some 9), (.mv (.tmp 19)), none⟩]
abbrev A65r7 : List AIns := [⟨(some 20), (.mv (.tmp 7)), none⟩, ⟨(some 21), (.mv (.tmp 9)), none⟩, ⟨(some 22), (.iaddr 5 (.tmp 20) (.tmp 21)), none⟩, ⟨(some 23), (.faddr 1 (.tmp 22)), none⟩, ⟨(some 24), (.load false 1 (.tmp 23)), none⟩, ⟨(some 25), (.mv (.tmp 2)), none⟩, ⟨(some 26), (.bin .add (.tmp 24) (.tmp 25)), none⟩, ⟨(some 27), (.iaddr 5 (.tmp 20) (.tmp 21)), none⟩, ⟨(some 28), (.faddr 1 (.tmp 27)), none⟩, ⟨none, (.store 1 (.tmp 28) (.tmp 26)), none⟩]
abbrev A65c8 : ACode := (.seq (.reg A65r6 [2, 7, 9, 14, 15, 16]) (.reg A65r7 [2, 7, 14, 15, 16]))
abbrev A65r9 : List AIns := [⟨(some 29), (.bin .add (.tmp 16) (.cst (.int .i64 1))), none⟩, ⟨(some 16), (.mv (.tmp 29)), none⟩]
abbrev A65l4 : ACode := (.seq (.reg A65r5 [2, 7, 14, 15, 16, 17]) (.seq (.cond (.tmp 17) [2, 7, 14, 15, 16] .skip [7] (.exit 0)) (.seq (.block 1 A65c8) (.reg A65r9 [2, 7, 14, 15, 16]))))
abbrev A65r10 : List AIns := [⟨(some 30), (.mv (.tmp 7)), none⟩, ⟨(some 6), (.mv (.tmp 30)), none⟩]
def A65 : AFun := ⟨31, 3, [(.tmp 6)], (.seq (.reg A65r1 [0, 1, 2]) (.seq (.reg A65r2 [0, 1, 2, 7]) (.seq (.seq (.reg A65r3 [2, 7, 14, 15, 16]) (.block 0 (.loop A65l4))) (.seq (.reg A65r10 [6]) .ret))))⟩
theorem A65c : compF Try.prog Try.f65 = some A65 := by kernel_rfl
theorem A65k : Callable Try.prog 65 := fun a w => Try.call65 a w
theorem A65p {ds : List D} {r : D} (hl : ds.length ≤ A65.nt) (hw : W Try.prog A65.code (Fin A65.results r) ⟨argEnv 0 ds, fun _ => none⟩) : PCon Try.prog 65 ds r := pcon_of_W mixed Try.func65 A65k A65c hl hw
/- estovers/estoversref19.add -/
abbrev A66r1 : List AIns := [⟨(some 6), (.mv (.cst .nil)), none⟩]
abbrev A66r2 : List AIns := [⟨(some 10), (.mv (.tmp 0)), none⟩, ⟨(some 11), (.call (.fnc 44) [(.tmp 10)]), none⟩, ⟨(some 7), (.mv (.tmp 11)), none⟩]
abbrev A66r3 : List AIns := [⟨(some 12), (.mv (.tmp 0)), none⟩, ⟨(some 13), (.mv (.tmp 1)), none⟩, ⟨(some 14), (.call (.fnc 38) [(.tmp 12), (.tmp 13)]), none⟩, ⟨(some 8), (.mv (.tmp 14)), none⟩]
abbrev A66r4 : List AIns := [⟨(some 9), (.mv (.cst (.int .i64 0))), none⟩]
abbrev A66r6 : List AIns := [⟨(some 15), (.mv (.tmp 9)), none⟩, ⟨(some 16), (.mv (.tmp 8)), none⟩, ⟨(some 17), (.len (.tmp 16)), none⟩, ⟨(some 18), (.bin .lss (.tmp 15) (.tmp 17)), none⟩]
abbrev A66d7 : List AIns := [⟨(some 21), (.mv (.tmp 7)), none⟩, ⟨(some 22), (.mv (.tmp 8)), none⟩, ⟨(some 23), (.mv (.tmp 9)), none⟩, ⟨(some 24), (.iaddr 1 (.tmp 22) (.tmp 23)), none⟩, ⟨(some 25), (.load false 1 (.tmp 24)), none⟩, ⟨(some 26), (.mv (.tmp 7)), none⟩, ⟨(some 27), (.mv (.tmp 8)), none⟩, ⟨(some 28), (.mv (.tmp 9)), none⟩, ⟨(some 29), (.iaddr 1 (.tmp 27) (.tmp 28)), none⟩, ⟨(some 30), (.load false 1 (.tmp 29)), none⟩, ⟨(some 31), (.iaddr 5 (.tmp 26) (.tmp 30)), none⟩, ⟨(some 32), (.faddr 1 (.tmp 31)), none⟩, ⟨(some 33), (.load false 1 (.tmp 32)), none⟩, ⟨(some 34), (.mv (.tmp 2)), none⟩, ⟨(some 35), (.bin .add (.tmp 33) (.tmp 34)), none⟩, ⟨(some 36), (.iaddr 5 (.tmp 21) (.tmp 25)), none⟩, ⟨(some 37), (.faddr 1 (.tmp 36)), none⟩, ⟨none, (.store 1 (.tmp 37) (.tmp 35)), none⟩]
abbrev A66d7p : List AIns := [⟨(some 21), (.mv (.tmp 7)), none⟩, ⟨(some 22), (.mv (.tmp 8)), none⟩, ⟨(some 23), (.mv (.tmp 9)), none⟩, ⟨(some 24), (.iaddr 1 (.tmp 22) (.tmp 23)), none⟩, ⟨(some 25), (.load false 1 (.tmp 24)), none⟩, ⟨(some 26), (.mv (.tmp 7)), none⟩, ⟨(some 27), (.mv (.tmp 8)), none⟩, ⟨(some 28), (.mv (.tmp 9)), none⟩, ⟨(some 29), (.iaddr 1 (.tmp 27) (.tmp 28)), none⟩, ⟨(some 30), (.load false 1 (.tmp 29)), none⟩, ⟨(some 31), (.iaddr 5 (.tmp 26) (.tmp 30)), none⟩, ⟨(some 32), (.faddr 1 (.tmp 31)), none⟩, ⟨(some 33), (.load false 1 (.tmp 32)), none⟩, ⟨(some 34), (.mv (.tmp 2)), none⟩, ⟨(some 35), (.bin .add (.tmp 33) (.tmp 34)), none⟩, ⟨(some 36), (.iaddr 5 (.tmp 21) (.tmp 25)), none⟩, ⟨(some 37), (.faddr 1 (.tmp 36)), none⟩]
abbrev A66c8 : ACode := (.dreg A66d7 [[], [], [], [1, 2], [1, 2, 3], [], [], [], [6, 7], [6, 7, 8], [5, 6, 7, 8, 9], [5, 6, 7, 8, 9, 10], [5, 6, 7, 8, 9, 10, 11], [], [5, 6, 7, 8, 9, 10, 11, 12, 13], [0, 1, 2, 3, 4, 5, 6, 7, 8, 9, 10, 11, 12, 13, 14], [0, 1, 2, 3, 4, 5, 6, 7, 8, 9, 10, 11, 12, 13, 14, 15], [0, 1, 2, 3, 4, 5, 6, 7, 8, 9, 10, 11, 12, 13, 14, 15, 16]] [2, 7, 8, 9])
abbrev A66r9 : List AIns := [⟨(some 19), (.mv (.tmp 9)), none⟩, ⟨(some 20), (.bin .add (.tmp 19) (.cst (.int .i64 1))), none⟩, ⟨(some 9), (.mv (.tmp 20)), none⟩]
abbrev A66l5 : ACode := (.seq (.seq (.reg A66r6 [2, 7, 8, 9, 18]) (.cond (.tmp 18) [2, 7, 8, 9] .skip [7] (.exit 0))) (.seq (.block 1 A66c8) (.reg A66r9 [2, 7, 8, 9])))
abbrev A66r10 : List AIns := [⟨(some 38), (.mv (.tmp 7)), none⟩, ⟨(some 6), (.mv (.tmp 38)), none⟩]
def A66 : AFun := ⟨39, 3, [(.tmp 6)], (.seq (.reg A66r1 [0, 1, 2]) (.seq (.reg A66r2 [0, 1, 2, 7]) (.seq (.reg A66r3 [2, 7, 8]) (.seq (.seq (.reg A66r4 [2, 7, 8, 9]) (.block 0 (.loop A66l5))) (.seq (.reg A66r10 [6]) .ret)))))⟩
theorem A66c : compF Try.prog Try.f66 = some A66 := by kernel_rfl
theorem A66k : Callable Try.prog 66 := fun a w => Try.call66 a w
theorem A66p {ds : List D} {r : D} (hl : ds.length ≤ A66.nt) (hw : W Try.prog A66.code (Fin A66.results r) ⟨argEnv 0 ds, fun _ => none⟩) : PCon Try.prog 66 ds r := pcon_of_W mixed Try.func66 A66k A66c hl hw
/- estovers/accounts.in -/
abbrev A67r1 : List AIns := [⟨(some 2), (.mv (.cst (.bool false))), none⟩]
abbrev A67r2 : List AIns := [⟨(some 3), (.mv (.tmp 0)), none⟩, ⟨(some 4), (.bin .geq (.tmp 3) (.cst (.int .i64 0))), none⟩, ⟨(some 5), (.mv (.tmp 4)), none⟩, ⟨(some 6), (.mv (.tmp 0)), (some (5, true))⟩, ⟨(some 7), (.bin .leq (.tmp 6) (.cst (.int .i64 1048576))), (some (5, true))⟩, ⟨(some 8), (.pick (.tmp 5) (.tmp 7) (.cst (.bool false))), none⟩, ⟨(some 2), (.mv (.tmp 8)), none⟩]
def A67 : AFun := ⟨9, 1, [(.tmp 2)], (.seq (.reg A67r1 [0]) (.seq (.reg A67r2 [2]) .ret))⟩
theorem A67c : compF Try.prog Try.f67 = some A67 := by kernel_rfl
theorem A67k : Callable Try.prog 67 := fun a w => Try.call67 a w
theorem A67p {ds : List D} {r : D} (hl : ds.length ≤ A67.nt) (hw : W Try.prog A67.code (Fin A67.results r) ⟨argEnv 0 ds, fun _ => none⟩) : PCon Try.prog 67 ds r := pcon_of_W mixed Try.func67 A67k A67c hl hw
/- slices.IndexFunc[[]estovers/api.Account,estovers/api.Account] -/
abbrev A68r1 : List AIns := [⟨(some 4), (.mv (.cst (.int .i64 0))), none⟩]
abbrev A68r2 : List AIns := [⟨(some 6), (.mv (.tmp 0)), none⟩, ⟨(some 7), (.len (.tmp 6)), none⟩, ⟨(some 8), (.mv (.cst (.int .i64 0))), none⟩]
abbrev A68r4 : List AIns := [⟨(some 9), (.bin .lss (.tmp 8) (.tmp 7)), none⟩]
abbrev A68r5 : List AIns := [⟨(some 10), (.mv (.tmp 8)), none⟩, ⟨(some 5), (.mv (.tmp 10)), none⟩]
abbrev A68r6 : List AIns := [⟨(some 11), (.mv (.tmp 1)), none⟩, ⟨(some 12), (.mv (.tmp 0)), none⟩, ⟨(some 13), (.mv (.tmp 5)), none⟩, ⟨(some 14), (.iaddr 5 (.tmp 12) (.tmp 13)), none⟩, ⟨(some 15), (.load true 5 (.tmp 14)), none⟩, ⟨(some 16), (.call (.tmp 11) [(.tmp 15)]), none⟩]
abbrev A68r7 : List AIns := [⟨(some 17), (.mv (.tmp 5)), none⟩, ⟨(some 4), (.mv (.tmp 17)), none⟩]
abbrev A68c8 : ACode := (.seq (.reg A68r5 [0, 1, 5, 7, 8]) (.seq (.reg A68r6 [0, 1, 5, 7, 8, 16]) (.cond (.tmp 16) [5] (.seq (.reg A68r7 [4]) .ret) [0, 1, 7, 8] .skip)))
abbrev A68r9 : List AIns := [⟨(some 18), (.bin .add (.tmp 8) (.cst (.int .i64 1))), none⟩, ⟨(some 8), (.mv (.tmp 18)), none⟩]
abbrev A68l3 : ACode := (.seq (.reg A68r4 [0, 1, 7, 8, 9]) (.seq (.cond (.tmp 9) [0, 1, 7, 8] .skip [] (.exit 0)) (.seq (.block 1 A68c8) (.reg A68r9 [0, 1, 7, 8]))))
abbrev A68r10 : List AIns := [⟨(some 4), (.mv (.cst (.int .i64 (-1)))), none⟩]
def A68 : AFun := ⟨19, 2, [(.tmp 4)], (.seq (.reg A68r1 [0, 1]) (.seq (.seq (.reg A68r2 [0, 1, 7, 8]) (.block 0 (.loop A68l3))) (.seq (.reg A68r10 [4]) .ret)))⟩
theorem A68c : compF Try.prog Try.f68 = some A68 := by kernel_rfl
theorem A68k : Callable Try.prog 68 := fun a w => Try.call68 a w
theorem A68p {ds : List D} {r : D} (hl : ds.length ≤ A68.nt) (hw : W Try.prog A68.code (Fin A68.results r) ⟨argEnv 0 ds, fun _ => none⟩) : PCon Try.prog 68 ds r := pcon_of_W mixed Try.func68 A68k A68c hl hw
/- estovers/grant.of$1 -/
abbrev A69r1 : List AIns := [⟨(some 2), (.box (.tmp 0)), none⟩, ⟨(some 3), (.mv (.cst (.bool false))), none⟩]
abbrev A69r2 : List AIns := [⟨(some 4), (.faddr 0 (.tmp 2)), none⟩, ⟨(some 5), (.load false 1 (.tmp 4)), none⟩, ⟨(some 6), (.load false 1 (.tmp 1)), none⟩, ⟨(some 7), (.bin .eql (.tmp 5) (.tmp 6)), none⟩, ⟨(some 3), (.mv (.tmp 7)), none⟩]
def A69 : AFun := ⟨8, 2, [(.tmp 3)], (.seq (.reg A69r1 [1, 2]) (.seq (.reg A69r2 [3]) .ret))⟩
theorem A69c : compF Try.prog Try.f69 = some A69 := by kernel_rfl
theorem A69k : Callable Try.prog 69 := fun a w => Try.call69 a w
theorem A69p {ds : List D} {r : D} (hl : ds.length ≤ A69.nt) (hw : W Try.prog A69.code (Fin A69.results r) ⟨argEnv 0 ds, fun _ => none⟩) : PCon Try.prog 69 ds r := pcon_of_W mixed Try.func69 A69k A69c hl hw
/- estovers/accounts.Own -/
end Go.Proofs.Ytbepjnjfnmmpaaa
