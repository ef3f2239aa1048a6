/- The compiled functions of this seat, in named pieces, each with the proof that it is what the compiler gives of the model's code. -/
import Derived.Test.YtmkcfadpofjokaaAmS
import Derived.Test.YtmkcfadpofjokaaRows
set_option linter.unusedSimpArgs false
set_option linter.unusedVariables false
namespace Go.Proofs.Ytmkcfadpofjokaa
open Go.AM
set_option maxRecDepth 100000
theorem mixed : Try.prog.follows .mixedOrders = true := by kernel_rfl
/- estovers/estoverslaw19.AccountsChecks -/
/- estovers/estoverslaw19.AccountsPaths -/
/- estovers/estoverslaw19.AccountsSteps -/
/- estovers/estoverslaw19.AccountsLimits -/
/- estovers/estoverslaw19.AccountsMargins -/
/- estovers/estoverslaw19.AccountsBack -/
/- estovers/estoverslaw19.AccountsCommute -/
abbrev A9r1 : List AIns := [⟨(some 4), (.box (.tmp 1)), none⟩, ⟨(some 5), (.box (.tmp 2)), none⟩, ⟨(some 6), (.mv (.cst (.bool false))), none⟩]
abbrev A9r2 : List AIns := [⟨(some 18), (.call (.fnc 10) []), none⟩, ⟨(some 19), (.un .not (.tmp 18)), none⟩, ⟨(some 20), (.mv (.tmp 19)), none⟩, ⟨(some 21), (.mv (.tmp 0)), (some (20, false))⟩, ⟨(some 22), (.call (.fnc 11) [(.tmp 21)]), (some (20, false))⟩, ⟨(some 23), (.un .not (.tmp 22)), (some (20, false))⟩, ⟨(some 24), (.pick (.tmp 20) (.cst (.bool true)) (.tmp 23)), none⟩]
abbrev A9r3 : List AIns := [⟨(some 25), (.call (.fnc 10) []), none⟩, ⟨(some 6), (.mv (.tmp 25)), none⟩]
abbrev A9r4 : List AIns := [⟨(some 27), (.mv (.tmp 0)), none⟩, ⟨(some 28), (.faddr 1 (.tmp 4)), none⟩, ⟨(some 29), (.load false 1 (.tmp 28)), none⟩, ⟨(some 30), (.faddr 2 (.tmp 4)), none⟩, ⟨(some 31), (.load false 1 (.tmp 30)), none⟩, ⟨(some 32), (.call (.fnc 24) [(.tmp 27), (.tmp 29), (.tmp 31)]), none⟩, ⟨(some 26), (.mv (.tmp 32)), none⟩, ⟨(some 33), (.extract 0 (.tmp 26)), none⟩, ⟨(some 34), (.extract 1 (.tmp 26)), none⟩, ⟨(some 35), (.extract 2 (.tmp 26)), none⟩, ⟨(some 7), (.mv (.tmp 33)), none⟩, ⟨(some 8), (.mv (.tmp 34)), none⟩, ⟨(some 9), (.mv (.tmp 35)), none⟩]
abbrev A9r5 : List AIns := [⟨(some 36), (.mv (.tmp 9)), none⟩, ⟨(some 37), (.bin .neq (.tmp 36) (.cst (.int .i64 0))), none⟩]
abbrev A9r6 : List AIns := [⟨(some 6), (.mv (.cst (.bool true))), none⟩]
abbrev A9r7 : List AIns := [⟨(some 39), (.mv (.tmp 7)), none⟩, ⟨(some 40), (.faddr 1 (.tmp 5)), none⟩, ⟨(some 41), (.load false 1 (.tmp 40)), none⟩, ⟨(some 42), (.faddr 2 (.tmp 5)), none⟩, ⟨(some 43), (.load false 1 (.tmp 42)), none⟩, ⟨(some 44), (.call (.fnc 24) [(.tmp 39), (.tmp 41), (.tmp 43)]), none⟩, ⟨(some 38), (.mv (.tmp 44)), none⟩, ⟨(some 45), (.extract 0 (.tmp 38)), none⟩, ⟨(some 46), (.extract 1 (.tmp 38)), none⟩, ⟨(some 47), (.extract 2 (.tmp 38)), none⟩, ⟨(some 10), (.mv (.tmp 45)), none⟩, ⟨(some 11), (.mv (.tmp 46)), none⟩, ⟨(some 9), (.mv (.tmp 47)), none⟩]
abbrev A9r8 : List AIns := [⟨(some 48), (.mv (.tmp 9)), none⟩, ⟨(some 49), (.bin .neq (.tmp 48) (.cst (.int .i64 0))), none⟩]
abbrev A9r9 : List AIns := [⟨(some 6), (.mv (.cst (.bool true))), none⟩]
abbrev A9r10 : List AIns := [⟨(some 51), (.mv (.tmp 0)), none⟩, ⟨(some 52), (.faddr 1 (.tmp 5)), none⟩, ⟨(some 53), (.load false 1 (.tmp 52)), none⟩, ⟨(some 54), (.faddr 2 (.tmp 5)), none⟩, ⟨(some 55), (.load false 1 (.tmp 54)), none⟩, ⟨(some 56), (.call (.fnc 24) [(.tmp 51), (.tmp 53), (.tmp 55)]), none⟩, ⟨(some 50), (.mv (.tmp 56)), none⟩, ⟨(some 57), (.extract 0 (.tmp 50)), none⟩, ⟨(some 58), (.extract 1 (.tmp 50)), none⟩, ⟨(some 59), (.extract 2 (.tmp 50)), none⟩, ⟨(some 12), (.mv (.tmp 57)), none⟩, ⟨(some 13), (.mv (.tmp 58)), none⟩, ⟨(some 14), (.mv (.tmp 59)), none⟩]
abbrev A9r11 : List AIns := [⟨(some 61), (.mv (.tmp 12)), none⟩, ⟨(some 62), (.faddr 1 (.tmp 4)), none⟩, ⟨(some 63), (.load false 1 (.tmp 62)), none⟩, ⟨(some 64), (.faddr 2 (.tmp 4)), none⟩, ⟨(some 65), (.load false 1 (.tmp 64)), none⟩, ⟨(some 66), (.call (.fnc 24) [(.tmp 61), (.tmp 63), (.tmp 65)]), none⟩, ⟨(some 60), (.mv (.tmp 66)), none⟩, ⟨(some 67), (.extract 0 (.tmp 60)), none⟩, ⟨(some 68), (.extract 1 (.tmp 60)), none⟩, ⟨(some 69), (.extract 2 (.tmp 60)), none⟩, ⟨(some 15), (.mv (.tmp 67)), none⟩, ⟨(some 16), (.mv (.tmp 68)), none⟩, ⟨(some 17), (.mv (.tmp 69)), none⟩]
abbrev A9r12 : List AIns := [⟨(some 70), (.mv (.tmp 14)), none⟩, ⟨(some 71), (.bin .eql (.tmp 70) (.cst (.int .i64 0))), none⟩, ⟨(some 72), (.mv (.tmp 71)), none⟩, ⟨(some 73), (.mv (.tmp 17)), (some (72, true))⟩, ⟨(some 74), (.bin .eql (.tmp 73) (.cst (.int .i64 0))), (some (72, true))⟩, ⟨(some 75), (.pick (.tmp 72) (.tmp 74) (.cst (.bool false))), none⟩, ⟨(some 76), (.mv (.tmp 75)), none⟩, ⟨(some 77), (.mv (.tmp 10)), (some (76, true))⟩, ⟨(some 78), (.mv (.tmp 15)), (some (76, true))⟩, ⟨(some 79), (.call (.fnc 28) [(.tmp 77), (.tmp 78)]), (some (76, true))⟩, ⟨(some 80), (.pick (.tmp 76) (.tmp 79) (.cst (.bool false))), none⟩, ⟨(some 6), (.mv (.tmp 80)), none⟩]
def A9 : AFun := ⟨81, 3, [(.tmp 6)], (.seq (.reg A9r1 [0, 4, 5]) (.seq (.seq (.reg A9r2 [0, 4, 5, 24]) (.cond (.tmp 24) [] (.seq (.reg A9r3 [6]) .ret) [0, 4, 5] .skip)) (.seq (.reg A9r4 [0, 4, 5, 7, 9]) (.seq (.seq (.reg A9r5 [0, 4, 5, 7, 37]) (.cond (.tmp 37) [] (.seq (.reg A9r6 [6]) .ret) [0, 4, 5, 7] .skip)) (.seq (.reg A9r7 [0, 4, 5, 9, 10]) (.seq (.seq (.reg A9r8 [0, 4, 5, 10, 49]) (.cond (.tmp 49) [] (.seq (.reg A9r9 [6]) .ret) [0, 4, 5, 10] .skip)) (.seq (.reg A9r10 [4, 10, 12, 14]) (.seq (.reg A9r11 [10, 14, 15, 17]) (.seq (.reg A9r12 [6]) .ret)))))))))⟩
theorem A9c : compF Try.prog Try.f9 = some A9 := by kernel_rfl
theorem A9k : Callable Try.prog 9 := fun a w => Try.call9 a w
theorem A9p {ds : List D} {r : D} (hl : ds.length ≤ A9.nt) (hw : W Try.prog A9.code (Fin A9.results r) ⟨argEnv 0 ds, fun _ => none⟩) : PCon Try.prog 9 ds r := pcon_of_W mixed Try.func9 A9k A9c hl hw
/- estovers/estoverslaw19.awake -/
abbrev A10r1 : List AIns := [⟨(some 0), (.mv (.cst (.bool false))), none⟩]
abbrev A10r2 : List AIns := [⟨(some 14), (.call (.fnc 29) []), none⟩, ⟨(some 1), (.mv (.tmp 14)), none⟩]
abbrev A10r3 : List AIns := [⟨(some 15), (.mv (.tmp 1)), none⟩, ⟨(some 16), (.call (.fnc 16) [(.tmp 15), (.cst (.int .i64 2))]), none⟩, ⟨(some 2), (.mv (.tmp 16)), none⟩]
abbrev A10r4 : List AIns := [⟨(some 18), (.mv (.tmp 1)), none⟩, ⟨(some 19), (.call (.fnc 18) [(.tmp 18), (.cst (.int .i64 2))]), none⟩, ⟨(some 17), (.mv (.tmp 19)), none⟩, ⟨(some 20), (.extract 0 (.tmp 17)), none⟩, ⟨(some 21), (.extract 1 (.tmp 17)), none⟩, ⟨(some 22), (.extract 2 (.tmp 17)), none⟩, ⟨(some 3), (.mv (.tmp 20)), none⟩, ⟨(some 4), (.mv (.tmp 21)), none⟩, ⟨(some 5), (.mv (.tmp 22)), none⟩]
abbrev A10r5 : List AIns := [⟨(some 24), (.mv (.tmp 1)), none⟩, ⟨(some 25), (.call (.fnc 24) [(.tmp 24), (.cst (.int .i64 2)), (.cst (.int .i64 2))]), none⟩, ⟨(some 23), (.mv (.tmp 25)), none⟩, ⟨(some 26), (.extract 0 (.tmp 23)), none⟩, ⟨(some 27), (.extract 1 (.tmp 23)), none⟩, ⟨(some 28), (.extract 2 (.tmp 23)), none⟩, ⟨(some 6), (.mv (.tmp 26)), none⟩, ⟨(some 7), (.mv (.tmp 27)), none⟩, ⟨(some 8), (.mv (.tmp 28)), none⟩]
abbrev A10r6 : List AIns := [⟨(some 30), (.mv (.tmp 1)), none⟩, ⟨(some 31), (.call (.fnc 24) [(.tmp 30), (.cst (.int .i64 2)), (.cst (.int .i64 3))]), none⟩, ⟨(some 29), (.mv (.tmp 31)), none⟩, ⟨(some 32), (.extract 0 (.tmp 29)), none⟩, ⟨(some 33), (.extract 1 (.tmp 29)), none⟩, ⟨(some 34), (.extract 2 (.tmp 29)), none⟩, ⟨(some 9), (.mv (.tmp 32)), none⟩, ⟨(some 10), (.mv (.tmp 33)), none⟩, ⟨(some 11), (.mv (.tmp 34)), none⟩]
abbrev A10r7 : List AIns := [⟨(some 36), (.mv (.tmp 1)), none⟩, ⟨(some 37), (.call (.fnc 26) [(.tmp 36), (.cst (.int .i64 1)), (.cst (.int .i64 2))]), none⟩, ⟨(some 35), (.mv (.tmp 37)), none⟩, ⟨(some 38), (.extract 0 (.tmp 35)), none⟩, ⟨(some 39), (.extract 1 (.tmp 35)), none⟩, ⟨(some 12), (.mv (.tmp 38)), none⟩, ⟨(some 13), (.mv (.tmp 39)), none⟩]
abbrev A10r8 : List AIns := [⟨(some 40), (.mv (.tmp 1)), none⟩, ⟨(some 41), (.call (.fnc 12) [(.tmp 40)]), none⟩, ⟨(some 42), (.bin .eql (.tmp 41) (.cst (.int .i64 0))), none⟩, ⟨(some 43), (.mv (.tmp 42)), none⟩, ⟨(some 44), (.mv (.tmp 2)), (some (43, true))⟩, ⟨(some 45), (.len (.tmp 44)), (some (43, true))⟩, ⟨(some 46), (.bin .eql (.tmp 45) (.cst (.int .i64 3))), (some (43, true))⟩, ⟨(some 47), (.pick (.tmp 43) (.tmp 46) (.cst (.bool false))), none⟩, ⟨(some 48), (.mv (.tmp 47)), none⟩, ⟨(some 49), (.mv (.tmp 2)), (some (48, true))⟩, ⟨(some 50), (.iaddr 1 (.tmp 49) (.cst (.int .i64 0))), (some (48, true))⟩, ⟨(some 51), (.load false 1 (.tmp 50)), (some (48, true))⟩, ⟨(some 52), (.bin .eql (.tmp 51) (.cst (.int .i64 2))), (some (48, true))⟩, ⟨(some 53), (.pick (.tmp 48) (.tmp 52) (.cst (.bool false))), none⟩, ⟨(some 54), (.mv (.tmp 53)), none⟩, ⟨(some 55), (.mv (.tmp 2)), (some (54, true))⟩, ⟨(some 56), (.iaddr 1 (.tmp 55) (.cst (.int .i64 1))), (some (54, true))⟩, ⟨(some 57), (.load false 1 (.tmp 56)), (some (54, true))⟩, ⟨(some 58), (.bin .eql (.tmp 57) (.cst (.int .i64 1))), (some (54, true))⟩, ⟨(some 59), (.pick (.tmp 54) (.tmp 58) (.cst (.bool false))), none⟩, ⟨(some 60), (.mv (.tmp 59)), none⟩, ⟨(some 61), (.mv (.tmp 2)), (some (60, true))⟩, ⟨(some 62), (.iaddr 1 (.tmp 61) (.cst (.int .i64 2))), (some (60, true))⟩, ⟨(some 63), (.load false 1 (.tmp 62)), (some (60, true))⟩, ⟨(some 64), (.bin .eql (.tmp 63) (.cst (.int .i64 0))), (some (60, true))⟩, ⟨(some 65), (.pick (.tmp 60) (.tmp 64) (.cst (.bool false))), none⟩, ⟨(some 66), (.mv (.tmp 65)), none⟩, ⟨(some 67), (.mv (.tmp 1)), (some (66, true))⟩, ⟨(some 68), (.call (.fnc 22) [(.tmp 67), (.cst (.int .i64 0))]), (some (66, true))⟩, ⟨(some 69), (.bin .eql (.tmp 68) (.cst (.int .i64 1))), (some (66, true))⟩, ⟨(some 70), (.pick (.tmp 66) (.tmp 69) (.cst (.bool false))), none⟩, ⟨(some 71), (.mv (.tmp 70)), none⟩, ⟨(some 72), (.mv (.tmp 1)), (some (71, true))⟩, ⟨(some 73), (.call (.fnc 22) [(.tmp 72), (.cst (.int .i64 2))]), (some (71, true))⟩, ⟨(some 74), (.bin .eql (.tmp 73) (.cst (.int .i64 3))), (some (71, true))⟩, ⟨(some 75), (.pick (.tmp 71) (.tmp 74) (.cst (.bool false))), none⟩, ⟨(some 76), (.mv (.tmp 75)), none⟩, ⟨(some 77), (.mv (.tmp 3)), (some (76, true))⟩, ⟨(some 78), (.bin .eql (.tmp 77) (.cst (.int .i64 2))), (some (76, true))⟩, ⟨(some 79), (.pick (.tmp 76) (.tmp 78) (.cst (.bool false))), none⟩, ⟨(some 80), (.mv (.tmp 79)), none⟩, ⟨(some 81), (.mv (.tmp 4)), (some (80, true))⟩, ⟨(some 82), (.bin .eql (.tmp 81) (.cst (.int .i64 1))), (some (80, true))⟩, ⟨(some 83), (.pick (.tmp 80) (.tmp 82) (.cst (.bool false))), none⟩, ⟨(some 84), (.mv (.tmp 83)), none⟩, ⟨(some 85), (.mv (.tmp 5)), (some (84, true))⟩, ⟨(some 86), (.bin .eql (.tmp 85) (.cst (.int .i64 0))), (some (84, true))⟩, ⟨(some 87), (.pick (.tmp 84) (.tmp 86) (.cst (.bool false))), none⟩, ⟨(some 88), (.mv (.tmp 87)), none⟩, ⟨(some 89), (.mv (.tmp 6)), (some (88, true))⟩, ⟨(some 90), (.len (.tmp 89)), (some (88, true))⟩, ⟨(some 91), (.bin .eql (.tmp 90) (.cst (.int .i64 3))), (some (88, true))⟩, ⟨(some 92), (.pick (.tmp 88) (.tmp 91) (.cst (.bool false))), none⟩, ⟨(some 93), (.mv (.tmp 92)), none⟩, ⟨(some 94), (.mv (.tmp 6)), (some (93, true))⟩, ⟨(some 95), (.iaddr 5 (.tmp 94) (.cst (.int .i64 0))), (some (93, true))⟩, ⟨(some 96), (.faddr 1 (.tmp 95)), (some (93, true))⟩, ⟨(some 97), (.load false 1 (.tmp 96)), (some (93, true))⟩, ⟨(some 98), (.bin .eql (.tmp 97) (.cst (.int .i64 7))), (some (93, true))⟩, ⟨(some 99), (.pick (.tmp 93) (.tmp 98) (.cst (.bool false))), none⟩, ⟨(some 100), (.mv (.tmp 99)), none⟩, ⟨(some 101), (.mv (.tmp 6)), (some (100, true))⟩, ⟨(some 102), (.iaddr 5 (.tmp 101) (.cst (.int .i64 1))), (some (100, true))⟩, ⟨(some 103), (.faddr 1 (.tmp 102)), (some (100, true))⟩, ⟨(some 104), (.load false 1 (.tmp 103)), (some (100, true))⟩, ⟨(some 105), (.bin .eql (.tmp 104) (.cst (.int .i64 6))), (some (100, true))⟩, ⟨(some 106), (.pick (.tmp 100) (.tmp 105) (.cst (.bool false))), none⟩, ⟨(some 107), (.mv (.tmp 106)), none⟩, ⟨(some 108), (.mv (.tmp 6)), (some (107, true))⟩, ⟨(some 109), (.iaddr 5 (.tmp 108) (.cst (.int .i64 2))), (some (107, true))⟩, ⟨(some 110), (.faddr 1 (.tmp 109)), (some (107, true))⟩, ⟨(some 111), (.load false 1 (.tmp 110)), (some (107, true))⟩, ⟨(some 112), (.bin .eql (.tmp 111) (.cst (.int .i64 5))), (some (107, true))⟩, ⟨(some 113), (.pick (.tmp 107) (.tmp 112) (.cst (.bool false))), none⟩, ⟨(some 114), (.mv (.tmp 113)), none⟩, ⟨(some 115), (.mv (.tmp 7)), (some (114, true))⟩, ⟨(some 116), (.bin .eql (.tmp 115) (.cst (.int .i64 (-1)))), (some (114, true))⟩, ⟨(some 117), (.pick (.tmp 114) (.tmp 116) (.cst (.bool false))), none⟩, ⟨(some 118), (.mv (.tmp 117)), none⟩, ⟨(some 119), (.mv (.tmp 8)), (some (118, true))⟩, ⟨(some 120), (.bin .eql (.tmp 119) (.cst (.int .i64 0))), (some (118, true))⟩, ⟨(some 121), (.pick (.tmp 118) (.tmp 120) (.cst (.bool false))), none⟩, ⟨(some 122), (.mv (.tmp 121)), none⟩, ⟨(some 123), (.mv (.tmp 10)), (some (122, true))⟩, ⟨(some 124), (.bin .eql (.tmp 123) (.cst (.int .i64 1))), (some (122, true))⟩, ⟨(some 125), (.pick (.tmp 122) (.tmp 124) (.cst (.bool false))), none⟩, ⟨(some 126), (.mv (.tmp 125)), none⟩, ⟨(some 127), (.mv (.tmp 11)), (some (126, true))⟩, ⟨(some 128), (.bin .eql (.tmp 127) (.cst (.int .i64 17))), (some (126, true))⟩, ⟨(some 129), (.pick (.tmp 126) (.tmp 128) (.cst (.bool false))), none⟩, ⟨(some 130), (.mv (.tmp 129)), none⟩, ⟨(some 131), (.mv (.tmp 13)), (some (130, true))⟩, ⟨(some 132), (.bin .eql (.tmp 131) (.cst (.int .i64 11))), (some (130, true))⟩, ⟨(some 133), (.pick (.tmp 130) (.tmp 132) (.cst (.bool false))), none⟩, ⟨(some 134), (.mv (.tmp 133)), none⟩, ⟨(some 135), (.mv (.tmp 1)), (some (134, true))⟩, ⟨(some 136), (.call (.fnc 14) [(.tmp 135)]), (some (134, true))⟩, ⟨(some 137), (.bin .eql (.tmp 136) (.cst (.int .i64 5))), (some (134, true))⟩, ⟨(some 138), (.pick (.tmp 134) (.tmp 137) (.cst (.bool false))), none⟩, ⟨(some 139), (.mv (.tmp 138)), none⟩, ⟨(some 140), (.mv (.tmp 1)), (some (139, true))⟩, ⟨(some 141), (.call (.fnc 20) [(.tmp 140), (.cst (.int .i64 2)), (.cst (.int .i64 1))]), (some (139, true))⟩, ⟨(some 142), (.pick (.tmp 139) (.tmp 141) (.cst (.bool false))), none⟩, ⟨(some 143), (.mv (.tmp 142)), none⟩, ⟨(some 144), (.mv (.tmp 1)), (some (143, true))⟩, ⟨(some 145), (.call (.fnc 20) [(.tmp 144), (.cst (.int .i64 1)), (.cst (.int .i64 2))]), (some (143, true))⟩, ⟨(some 146), (.un .not (.tmp 145)), (some (143, true))⟩, ⟨(some 147), (.pick (.tmp 143) (.tmp 146) (.cst (.bool false))), none⟩, ⟨(some 0), (.mv (.tmp 147)), none⟩]
def A10 : AFun := ⟨148, 0, [(.tmp 0)], (.seq (.reg A10r1 []) (.seq (.reg A10r2 [1]) (.seq (.reg A10r3 [1, 2]) (.seq (.reg A10r4 [1, 2, 3, 4, 5]) (.seq (.reg A10r5 [1, 2, 3, 4, 5, 6, 7, 8]) (.seq (.reg A10r6 [1, 2, 3, 4, 5, 6, 7, 8, 10, 11]) (.seq (.reg A10r7 [1, 2, 3, 4, 5, 6, 7, 8, 10, 11, 13]) (.seq (.reg A10r8 [0]) .ret))))))))⟩
theorem A10c : compF Try.prog Try.f10 = some A10 := by kernel_rfl
theorem A10k : Callable Try.prog 10 := fun a w => Try.call10 a w
theorem A10p {ds : List D} {r : D} (hl : ds.length ≤ A10.nt) (hw : W Try.prog A10.code (Fin A10.results r) ⟨argEnv 0 ds, fun _ => none⟩) : PCon Try.prog 10 ds r := pcon_of_W mixed Try.func10 A10k A10c hl hw
/- estovers/estoverslaw19.Few -/
abbrev A11r1 : List AIns := [⟨(some 2), (.mv (.cst (.bool false))), none⟩]
abbrev A11r2 : List AIns := [⟨(some 3), (.mv (.tmp 0)), none⟩, ⟨(some 4), (.len (.tmp 3)), none⟩, ⟨(some 5), (.bin .leq (.tmp 4) (.cst (.int .i64 20))), none⟩, ⟨(some 2), (.mv (.tmp 5)), none⟩]
def A11 : AFun := ⟨6, 1, [(.tmp 2)], (.seq (.reg A11r1 [0]) (.seq (.reg A11r2 [2]) .ret))⟩
theorem A11c : compF Try.prog Try.f11 = some A11 := by kernel_rfl
theorem A11k : Callable Try.prog 11 := fun a w => Try.call11 a w
theorem A11p {ds : List D} {r : D} (hl : ds.length ≤ A11.nt) (hw : W Try.prog A11.code (Fin A11.results r) ⟨argEnv 0 ds, fun _ => none⟩) : PCon Try.prog 11 ds r := pcon_of_W mixed Try.func11 A11k A11c hl hw
/- estovers/accounts.Check -/
abbrev A12r1 : List AIns := [⟨(some 2), (.mv (.cst (.int .i64 0))), none⟩]
abbrev A12r2 : List AIns := [⟨(some 4), (.mv (.tmp 0)), none⟩, ⟨(some 5), (.len (.tmp 4)), none⟩, ⟨(some 6), (.bin .lss (.tmp 5) (.cst (.int .i64 1))), none⟩, ⟨(some 7), (.mv (.tmp 6)), none⟩, ⟨(some 8), (.mv (.tmp 0)), (some (7, false))⟩, ⟨(some 9), (.len (.tmp 8)), (some (7, false))⟩, ⟨(some 10), (.bin .gtr (.tmp 9) (.cst (.int .i64 8))), (some (7, false))⟩, ⟨(some 11), (.pick (.tmp 7) (.cst (.bool true)) (.tmp 10)), none⟩, ⟨(some 3), (.mv (.tmp 11)), none⟩]
abbrev A12r3 : List AIns := [⟨(some 2), (.mv (.cst (.int .i64 9))), none⟩]
abbrev A12r4 : List AIns := [⟨(some 13), (.mv (.tmp 0)), none⟩, ⟨(some 14), (.call (.fnc 30) [(.tmp 13)]), none⟩, ⟨(some 15), (.un .not (.tmp 14)), none⟩, ⟨(some 12), (.mv (.tmp 15)), none⟩]
abbrev A12r5 : List AIns := [⟨(some 2), (.mv (.cst (.int .i64 1))), none⟩]
abbrev A12r6 : List AIns := [⟨(some 17), (.mv (.tmp 0)), none⟩, ⟨(some 18), (.call (.fnc 31) [(.tmp 17)]), none⟩, ⟨(some 19), (.un .not (.tmp 18)), none⟩, ⟨(some 16), (.mv (.tmp 19)), none⟩]
abbrev A12r7 : List AIns := [⟨(some 2), (.mv (.cst (.int .i64 2))), none⟩]
abbrev A12r8 : List AIns := [⟨(some 21), (.mv (.tmp 0)), none⟩, ⟨(some 22), (.call (.fnc 32) [(.tmp 21), (.fnc 33)]), none⟩, ⟨(some 20), (.mv (.tmp 22)), none⟩]
abbrev A12r9 : List AIns := [⟨(some 2), (.mv (.cst (.int .i64 17))), none⟩]
abbrev A12r10 : List AIns := [⟨(some 24), (.mv (.tmp 0)), none⟩, ⟨(some 25), (.call (.fnc 35) [(.tmp 24)]), none⟩, ⟨(some 26), (.call (.fnc 34) [(.tmp 25)]), none⟩, ⟨(some 27), (.bin .lss (.tmp 26) (.cst (.int .i64 0))), none⟩, ⟨(some 23), (.mv (.tmp 27)), none⟩]
abbrev A12r11 : List AIns := [⟨(some 2), (.mv (.cst (.int .i64 11))), none⟩]
abbrev A12c12 : ACode := (.seq (.reg A12r10 [23]) (.cond (.tmp 23) [] (.seq (.reg A12r11 [2]) .ret) [] .skip))
abbrev A12c13 : ACode := (.seq (.reg A12r8 [0, 20]) (.cond (.tmp 20) [] (.seq (.reg A12r9 [2]) .ret) [0] A12c12))
abbrev A12c14 : ACode := (.seq (.reg A12r6 [0, 16]) (.cond (.tmp 16) [] (.seq (.reg A12r7 [2]) .ret) [0] A12c13))
abbrev A12c15 : ACode := (.seq (.reg A12r4 [0, 12]) (.cond (.tmp 12) [] (.seq (.reg A12r5 [2]) .ret) [0] A12c14))
abbrev A12c16 : ACode := (.seq (.reg A12r2 [0, 3]) (.cond (.tmp 3) [] (.seq (.reg A12r3 [2]) .ret) [0] A12c15))
abbrev A12r17 : List AIns := [⟨(some 2), (.mv (.cst (.int .i64 0))), none⟩]
def A12 : AFun := ⟨28, 1, [(.tmp 2)], (.seq (.reg A12r1 [0]) (.seq (.block 0 A12c16) (.seq (.reg A12r17 [2]) .ret)))⟩
theorem A12c : compF Try.prog Try.f12 = some A12 := by kernel_rfl
theorem A12k : Callable Try.prog 12 := fun a w => Try.call12 a w
theorem A12p {ds : List D} {r : D} (hl : ds.length ≤ A12.nt) (hw : W Try.prog A12.code (Fin A12.results r) ⟨argEnv 0 ds, fun _ => none⟩) : PCon Try.prog 12 ds r := pcon_of_W mixed Try.func12 A12k A12c hl hw
/- estovers/estoversref19.Check -/
/- estovers/accounts.Total -/
abbrev A14r1 : List AIns := [⟨(some 2), (.mv (.cst (.int .i64 0))), none⟩]
abbrev A14r2 : List AIns := [⟨(some 3), (.mv (.tmp 0)), none⟩, ⟨(some 4), (.call (.fnc 12) [(.tmp 3)]), none⟩, ⟨(some 5), (.bin .neq (.tmp 4) (.cst (.int .i64 0))), none⟩]
abbrev A14r3 : List AIns := [⟨(some 2), (.mv (.cst (.int .i64 (-1)))), none⟩]
abbrev A14r4 : List AIns := [⟨(some 6), (.mv (.tmp 0)), none⟩, ⟨(some 7), (.iaddr 5 (.tmp 6) (.cst (.int .i64 0))), none⟩, ⟨(some 8), (.faddr 1 (.tmp 7)), none⟩, ⟨(some 9), (.load false 1 (.tmp 8)), none⟩, ⟨(some 2), (.mv (.tmp 9)), none⟩]
def A14 : AFun := ⟨10, 1, [(.tmp 2)], (.seq (.reg A14r1 [0]) (.seq (.seq (.reg A14r2 [0, 5]) (.cond (.tmp 5) [] (.seq (.reg A14r3 [2]) .ret) [0] .skip)) (.seq (.reg A14r4 [2]) .ret)))⟩
theorem A14c : compF Try.prog Try.f14 = some A14 := by kernel_rfl
theorem A14k : Callable Try.prog 14 := fun a w => Try.call14 a w
theorem A14p {ds : List D} {r : D} (hl : ds.length ≤ A14.nt) (hw : W Try.prog A14.code (Fin A14.results r) ⟨argEnv 0 ds, fun _ => none⟩) : PCon Try.prog 14 ds r := pcon_of_W mixed Try.func14 A14k A14c hl hw
/- estovers/estoversref19.Total -/
/- estovers/accounts.Path -/
abbrev A16r1 : List AIns := [⟨(some 4), (.mv (.cst .nil)), none⟩]
abbrev A16r2 : List AIns := [⟨(some 7), (.mv (.tmp 0)), none⟩, ⟨(some 8), (.mv (.tmp 1)), none⟩, ⟨(some 9), (.call (.fnc 38) [(.tmp 7), (.tmp 8)]), none⟩, ⟨(some 10), (.un .not (.tmp 9)), none⟩]
abbrev A16r3 : List AIns := [⟨(some 4), (.mv (.cst .nil)), none⟩]
abbrev A16r4 : List AIns := [⟨(some 5), (.mv (.cst .nil)), none⟩]
abbrev A16r5 : List AIns := [⟨(some 11), (.mv (.tmp 1)), none⟩, ⟨(some 6), (.mv (.tmp 11)), none⟩]
abbrev A16r7 : List AIns := [⟨(some 12), (.mv (.tmp 6)), none⟩, ⟨(some 13), (.bin .geq (.tmp 12) (.cst (.int .i64 0))), none⟩]
abbrev A16r8 : List AIns := [⟨(some 19), (.mv (.tmp 5)), none⟩, ⟨(some 20), (.mv (.tmp 6)), none⟩, ⟨(some 21), (.buildS 1 [(.int .i64 0)] 1 [(0, (1, (.tmp 20)))]), none⟩, ⟨(some 22), (.append 1 8 (.tmp 19) (.tmp 21)), none⟩, ⟨(some 5), (.mv (.tmp 22)), none⟩]
abbrev A16r9 : List AIns := [⟨(some 14), (.mv (.tmp 0)), none⟩, ⟨(some 15), (.mv (.tmp 6)), none⟩, ⟨(some 16), (.iaddr 5 (.tmp 14) (.tmp 15)), none⟩, ⟨(some 17), (.faddr 0 (.tmp 16)), none⟩, ⟨(some 18), (.load false 1 (.tmp 17)), none⟩, ⟨(some 6), (.mv (.tmp 18)), none⟩]
abbrev A16l6 : ACode := (.seq (.seq (.reg A16r7 [0, 5, 6, 13]) (.cond (.tmp 13) [0, 5, 6] .skip [5] (.exit 0))) (.seq (.block 1 (.reg A16r8 [0, 5, 6])) (.reg A16r9 [0, 5, 6])))
abbrev A16r10 : List AIns := [⟨(some 23), (.mv (.tmp 5)), none⟩, ⟨(some 4), (.mv (.tmp 23)), none⟩]
def A16 : AFun := ⟨24, 2, [(.tmp 4)], (.seq (.reg A16r1 [0, 1]) (.seq (.seq (.reg A16r2 [0, 1, 10]) (.cond (.tmp 10) [] (.seq (.reg A16r3 [4]) .ret) [0, 1] .skip)) (.seq (.reg A16r4 [0, 1, 5]) (.seq (.seq (.reg A16r5 [0, 5, 6]) (.block 0 (.loop A16l6))) (.seq (.reg A16r10 [4]) .ret)))))⟩
theorem A16c : compF Try.prog Try.f16 = some A16 := by kernel_rfl
theorem A16k : Callable Try.prog 16 := fun a w => Try.call16 a w
theorem A16p {ds : List D} {r : D} (hl : ds.length ≤ A16.nt) (hw : W Try.prog A16.code (Fin A16.results r) ⟨argEnv 0 ds, fun _ => none⟩) : PCon Try.prog 16 ds r := pcon_of_W mixed Try.func16 A16k A16c hl hw
/- estovers/estoversref19.Path -/
/- estovers/accounts.Margin -/
abbrev A18r1 : List AIns := [⟨(some 4), (.mv (.cst (.int .i64 0))), none⟩, ⟨(some 5), (.mv (.cst (.int .i64 0))), none⟩, ⟨(some 6), (.mv (.cst (.int .i64 0))), none⟩]
abbrev A18r2 : List AIns := [⟨(some 13), (.mv (.tmp 0)), none⟩, ⟨(some 14), (.call (.fnc 12) [(.tmp 13)]), none⟩, ⟨(some 7), (.mv (.tmp 14)), none⟩]
abbrev A18r3 : List AIns := [⟨(some 15), (.mv (.tmp 7)), none⟩, ⟨(some 16), (.bin .neq (.tmp 15) (.cst (.int .i64 0))), none⟩]
abbrev A18r4 : List AIns := [⟨(some 17), (.mv (.tmp 7)), none⟩, ⟨(some 4), (.mv (.cst (.int .i64 0))), none⟩, ⟨(some 5), (.mv (.cst (.int .i64 0))), none⟩, ⟨(some 6), (.mv (.tmp 17)), none⟩]
abbrev A18r5 : List AIns := [⟨(some 18), (.mv (.tmp 0)), none⟩, ⟨(some 19), (.mv (.tmp 1)), none⟩, ⟨(some 20), (.call (.fnc 38) [(.tmp 18), (.tmp 19)]), none⟩, ⟨(some 21), (.un .not (.tmp 20)), none⟩]
abbrev A18r6 : List AIns := [⟨(some 4), (.mv (.cst (.int .i64 0))), none⟩, ⟨(some 5), (.mv (.cst (.int .i64 0))), none⟩, ⟨(some 6), (.mv (.cst (.int .i64 6))), none⟩]
abbrev A18d7 : List AIns := [⟨(some 22), (.mv (.tmp 0)), none⟩, ⟨(some 23), (.mv (.tmp 1)), none⟩, ⟨(some 24), (.iaddr 5 (.tmp 22) (.tmp 23)), none⟩, ⟨(some 25), (.faddr 4 (.tmp 24)), none⟩, ⟨(some 26), (.load false 1 (.tmp 25)), none⟩, ⟨(some 27), (.mv (.tmp 0)), none⟩, ⟨(some 28), (.mv (.tmp 1)), none⟩, ⟨(some 29), (.iaddr 5 (.tmp 27) (.tmp 28)), none⟩, ⟨(some 30), (.faddr 1 (.tmp 29)), none⟩, ⟨(some 31), (.load false 1 (.tmp 30)), none⟩, ⟨(some 32), (.bin .sub (.tmp 26) (.tmp 31)), none⟩, ⟨(some 33), (.mv (.tmp 1)), none⟩, ⟨(some 8), (.mv (.tmp 32)), none⟩, ⟨(some 9), (.mv (.tmp 33)), none⟩]
abbrev A18r8 : List AIns := [⟨(some 34), (.mv (.tmp 0)), none⟩, ⟨(some 35), (.mv (.tmp 1)), none⟩, ⟨(some 36), (.call (.fnc 16) [(.tmp 34), (.tmp 35)]), none⟩, ⟨(some 37), (.len (.tmp 36)), none⟩, ⟨(some 38), (.mv (.cst (.int .i64 0))), none⟩]
abbrev A18r10 : List AIns := [⟨(some 39), (.bin .lss (.tmp 38) (.tmp 37)), none⟩]
abbrev A18r11 : List AIns := [⟨(some 40), (.iaddr 1 (.tmp 36) (.tmp 38)), none⟩, ⟨(some 41), (.load false 1 (.tmp 40)), none⟩, ⟨(some 11), (.mv (.tmp 41)), none⟩]
abbrev A18d12 : List AIns := [⟨(some 42), (.mv (.tmp 0)), none⟩, ⟨(some 43), (.mv (.tmp 11)), none⟩, ⟨(some 44), (.iaddr 5 (.tmp 42) (.tmp 43)), none⟩, ⟨(some 45), (.faddr 4 (.tmp 44)), none⟩, ⟨(some 46), (.load false 1 (.tmp 45)), none⟩, ⟨(some 47), (.mv (.tmp 0)), none⟩, ⟨(some 48), (.mv (.tmp 11)), none⟩, ⟨(some 49), (.iaddr 5 (.tmp 47) (.tmp 48)), none⟩, ⟨(some 50), (.faddr 1 (.tmp 49)), none⟩, ⟨(some 51), (.load false 1 (.tmp 50)), none⟩, ⟨(some 52), (.bin .sub (.tmp 46) (.tmp 51)), none⟩, ⟨(some 12), (.mv (.tmp 52)), none⟩]
abbrev A18r13 : List AIns := [⟨(some 53), (.mv (.tmp 12)), none⟩, ⟨(some 54), (.mv (.tmp 8)), none⟩, ⟨(some 55), (.bin .lss (.tmp 53) (.tmp 54)), none⟩]
abbrev A18r14 : List AIns := [⟨(some 56), (.mv (.tmp 12)), none⟩, ⟨(some 57), (.mv (.tmp 11)), none⟩, ⟨(some 8), (.mv (.tmp 56)), none⟩, ⟨(some 9), (.mv (.tmp 57)), none⟩]
abbrev A18c15 : ACode := (.seq (.reg A18r11 [0, 8, 9, 11, 36, 37, 38]) (.seq (.dreg A18d12 [[], [], [0, 1], [0, 1, 2], [0, 1, 2, 3], [], [], [5, 6], [5, 6, 7], [5, 6, 7, 8], [0, 1, 2, 3, 4, 5, 6, 7, 8, 9], [0, 1, 2, 3, 4, 5, 6, 7, 8, 9, 10]] [0, 8, 9, 11, 12, 36, 37, 38]) (.seq (.reg A18r13 [0, 8, 9, 11, 12, 36, 37, 38, 55]) (.cond (.tmp 55) [0, 11, 12, 36, 37, 38] (.reg A18r14 [0, 8, 9, 36, 37, 38]) [0, 8, 9, 36, 37, 38] .skip))))
abbrev A18r16 : List AIns := [⟨(some 58), (.bin .add (.tmp 38) (.cst (.int .i64 1))), none⟩, ⟨(some 38), (.mv (.tmp 58)), none⟩]
abbrev A18l9 : ACode := (.seq (.reg A18r10 [0, 8, 9, 36, 37, 38, 39]) (.seq (.cond (.tmp 39) [0, 8, 9, 36, 37, 38] .skip [8, 9] (.exit 0)) (.seq (.block 1 A18c15) (.reg A18r16 [0, 8, 9, 36, 37, 38]))))
abbrev A18r17 : List AIns := [⟨(some 59), (.mv (.tmp 8)), none⟩, ⟨(some 60), (.mv (.tmp 9)), none⟩, ⟨(some 4), (.mv (.tmp 59)), none⟩, ⟨(some 5), (.mv (.tmp 60)), none⟩, ⟨(some 6), (.mv (.cst (.int .i64 0))), none⟩]
def A18 : AFun := ⟨61, 2, [(.tmp 4), (.tmp 5), (.tmp 6)], (.seq (.reg A18r1 [0, 1]) (.seq (.seq (.reg A18r2 [0, 1, 7]) (.seq (.reg A18r3 [0, 1, 7, 16]) (.cond (.tmp 16) [7] (.seq (.reg A18r4 [4, 5, 6]) .ret) [0, 1] .skip))) (.seq (.seq (.reg A18r5 [0, 1, 21]) (.cond (.tmp 21) [] (.seq (.reg A18r6 [4, 5, 6]) .ret) [0, 1] .skip)) (.seq (.dreg A18d7 [[], [], [0, 1], [0, 1, 2], [0, 1, 2, 3], [], [], [5, 6], [5, 6, 7], [5, 6, 7, 8], [0, 1, 2, 3, 4, 5, 6, 7, 8, 9], [], [0, 1, 2, 3, 4, 5, 6, 7, 8, 9, 10], [0, 1, 2, 3, 4, 5, 6, 7, 8, 9, 10, 11, 12]] [0, 1, 8, 9]) (.seq (.seq (.reg A18r8 [0, 8, 9, 36, 37, 38]) (.block 0 (.loop A18l9))) (.seq (.reg A18r17 [4, 5, 6]) .ret))))))⟩
theorem A18c : compF Try.prog Try.f18 = some A18 := by kernel_rfl
theorem A18k : Callable Try.prog 18 := fun a w => Try.call18 a w
theorem A18p {ds : List D} {r : D} (hl : ds.length ≤ A18.nt) (hw : W Try.prog A18.code (Fin A18.results r) ⟨argEnv 0 ds, fun _ => none⟩) : PCon Try.prog 18 ds r := pcon_of_W mixed Try.func18 A18k A18c hl hw
/- estovers/estoversref19.Margin -/
/- estovers/accounts.Inside -/
abbrev A20r1 : List AIns := [⟨(some 6), (.mv (.cst (.bool false))), none⟩]
abbrev A20r2 : List AIns := [⟨(some 7), (.mv (.tmp 0)), none⟩, ⟨(some 8), (.mv (.tmp 1)), none⟩, ⟨(some 9), (.call (.fnc 38) [(.tmp 7), (.tmp 8)]), none⟩, ⟨(some 10), (.mv (.tmp 9)), none⟩, ⟨(some 11), (.mv (.tmp 2)), (some (10, true))⟩, ⟨(some 12), (.bin .eql (.tmp 11) (.cst (.int .i64 (-1)))), (some (10, true))⟩, ⟨(some 13), (.mv (.tmp 12)), (some (10, true))⟩, ⟨(some 14), (.mv (.tmp 0)), (some (13, false))⟩, ⟨(some 15), (.mv (.tmp 1)), (some (13, false))⟩, ⟨(some 16), (.call (.fnc 16) [(.tmp 14), (.tmp 15)]), (some (13, false))⟩, ⟨(some 17), (.mv (.tmp 2)), (some (13, false))⟩, ⟨(some 18), (.call (.fnc 40) [(.tmp 16), (.tmp 17)]), (some (13, false))⟩, ⟨(some 19), (.pick (.tmp 13) (.cst (.bool true)) (.tmp 18)), (some (10, true))⟩, ⟨(some 20), (.pick (.tmp 10) (.tmp 19) (.cst (.bool false))), none⟩, ⟨(some 6), (.mv (.tmp 20)), none⟩]
def A20 : AFun := ⟨21, 3, [(.tmp 6)], (.seq (.reg A20r1 [0, 1, 2]) (.seq (.reg A20r2 [6]) .ret))⟩
theorem A20c : compF Try.prog Try.f20 = some A20 := by kernel_rfl
theorem A20k : Callable Try.prog 20 := fun a w => Try.call20 a w
theorem A20p {ds : List D} {r : D} (hl : ds.length ≤ A20.nt) (hw : W Try.prog A20.code (Fin A20.results r) ⟨argEnv 0 ds, fun _ => none⟩) : PCon Try.prog 20 ds r := pcon_of_W mixed Try.func20 A20k A20c hl hw
/- estovers/estoversref19.Inside -/
/- estovers/accounts.Own -/
abbrev A22r1 : List AIns := [⟨(some 4), (.mv (.cst (.int .i64 0))), none⟩]
abbrev A22r2 : List AIns := [⟨(some 5), (.mv (.tmp 0)), none⟩, ⟨(some 6), (.mv (.tmp 1)), none⟩, ⟨(some 7), (.call (.fnc 38) [(.tmp 5), (.tmp 6)]), none⟩, ⟨(some 8), (.un .not (.tmp 7)), none⟩]
abbrev A22r3 : List AIns := [⟨(some 4), (.mv (.cst (.int .i64 (-1)))), none⟩]
abbrev A22r4 : List AIns := [⟨(some 9), (.mv (.tmp 0)), none⟩, ⟨(some 10), (.call (.fnc 35) [(.tmp 9)]), none⟩, ⟨(some 11), (.mv (.tmp 1)), none⟩, ⟨(some 12), (.iaddr 1 (.tmp 10) (.tmp 11)), none⟩, ⟨(some 13), (.load false 1 (.tmp 12)), none⟩, ⟨(some 4), (.mv (.tmp 13)), none⟩]
def A22 : AFun := ⟨14, 2, [(.tmp 4)], (.seq (.reg A22r1 [0, 1]) (.seq (.seq (.reg A22r2 [0, 1, 8]) (.cond (.tmp 8) [] (.seq (.reg A22r3 [4]) .ret) [0, 1] .skip)) (.seq (.reg A22r4 [4]) .ret)))⟩
theorem A22c : compF Try.prog Try.f22 = some A22 := by kernel_rfl
theorem A22k : Callable Try.prog 22 := fun a w => Try.call22 a w
theorem A22p {ds : List D} {r : D} (hl : ds.length ≤ A22.nt) (hw : W Try.prog A22.code (Fin A22.results r) ⟨argEnv 0 ds, fun _ => none⟩) : PCon Try.prog 22 ds r := pcon_of_W mixed Try.func22 A22k A22c hl hw
/- estovers/estoversref19.Own -/
/- estovers/accounts.Charge -/
abbrev A24r1 : List AIns := [⟨(some 6), (.mv (.cst .nil)), none⟩, ⟨(some 7), (.mv (.cst (.int .i64 0))), none⟩, ⟨(some 8), (.mv (.cst (.int .i64 0))), none⟩]
abbrev A24r2 : List AIns := [⟨(some 12), (.mv (.tmp 0)), none⟩, ⟨(some 13), (.mv (.tmp 1)), none⟩, ⟨(some 14), (.mv (.tmp 2)), none⟩, ⟨(some 15), (.call (.fnc 41) [(.tmp 12), (.tmp 13), (.tmp 14)]), none⟩, ⟨(some 9), (.mv (.tmp 15)), none⟩]
abbrev A24r3 : List AIns := [⟨(some 16), (.mv (.tmp 9)), none⟩, ⟨(some 17), (.bin .neq (.tmp 16) (.cst (.int .i64 0))), none⟩]
abbrev A24r4 : List AIns := [⟨(some 18), (.mv (.tmp 9)), none⟩, ⟨(some 6), (.mv (.cst .nil)), none⟩, ⟨(some 7), (.mv (.cst (.int .i64 (-1)))), none⟩, ⟨(some 8), (.mv (.tmp 18)), none⟩]
abbrev A24r5 : List AIns := [⟨(some 19), (.mv (.tmp 0)), none⟩, ⟨(some 20), (.mv (.tmp 1)), none⟩, ⟨(some 21), (.call (.fnc 16) [(.tmp 19), (.tmp 20)]), none⟩, ⟨(some 22), (.len (.tmp 21)), none⟩, ⟨(some 23), (.mv (.cst (.int .i64 0))), none⟩]
abbrev A24r7 : List AIns := [⟨(some 24), (.bin .lss (.tmp 23) (.tmp 22)), none⟩]
abbrev A24r8 : List AIns := [⟨(some 25), (.iaddr 1 (.tmp 21) (.tmp 23)), none⟩, ⟨(some 26), (.load false 1 (.tmp 25)), none⟩, ⟨(some 11), (.mv (.tmp 26)), none⟩]
abbrev A24d9 : List AIns := [⟨(some 27), (.mv (.tmp 0)), none⟩, ⟨(some 28), (.mv (.tmp 11)), none⟩, ⟨(some 29), (.iaddr 5 (.tmp 27) (.tmp 28)), none⟩, ⟨(some 30), (.faddr 1 (.tmp 29)), none⟩, ⟨(some 31), (.load false 1 (.tmp 30)), none⟩, ⟨(some 32), (.mv (.tmp 2)), none⟩, ⟨(some 33), (.bin .add (.tmp 31) (.tmp 32)), none⟩, ⟨(some 34), (.mv (.tmp 0)), none⟩, ⟨(some 35), (.mv (.tmp 11)), none⟩, ⟨(some 36), (.iaddr 5 (.tmp 34) (.tmp 35)), none⟩, ⟨(some 37), (.faddr 4 (.tmp 36)), none⟩, ⟨(some 38), (.load false 1 (.tmp 37)), none⟩, ⟨(some 39), (.bin .gtr (.tmp 33) (.tmp 38)), none⟩]
abbrev A24r10 : List AIns := [⟨(some 40), (.mv (.tmp 11)), none⟩, ⟨(some 6), (.mv (.cst .nil)), none⟩, ⟨(some 7), (.mv (.tmp 40)), none⟩, ⟨(some 8), (.mv (.cst (.int .i64 17))), none⟩]
abbrev A24c11 : ACode := (.seq (.reg A24r8 [0, 1, 2, 11, 21, 22, 23]) (.seq (.dreg A24d9 [[], [], [0, 1], [0, 1, 2], [0, 1, 2, 3], [], [0, 1, 2, 3, 4, 5], [], [], [7, 8], [7, 8, 9], [7, 8, 9, 10], [0, 1, 2, 3, 4, 5, 6, 7, 8, 9, 10, 11]] [0, 1, 2, 11, 21, 22, 23, 39]) (.cond (.tmp 39) [11] (.seq (.reg A24r10 [6, 7, 8]) .ret) [0, 1, 2, 21, 22, 23] .skip)))
abbrev A24r12 : List AIns := [⟨(some 41), (.bin .add (.tmp 23) (.cst (.int .i64 1))), none⟩, ⟨(some 23), (.mv (.tmp 41)), none⟩]
abbrev A24l6 : ACode := (.seq (.reg A24r7 [0, 1, 2, 21, 22, 23, 24]) (.seq (.cond (.tmp 24) [0, 1, 2, 21, 22, 23] .skip [0, 1, 2] (.exit 0)) (.seq (.block 1 A24c11) (.reg A24r12 [0, 1, 2, 21, 22, 23]))))
abbrev A24r13 : List AIns := [⟨(some 42), (.mv (.tmp 0)), none⟩, ⟨(some 43), (.mv (.tmp 1)), none⟩, ⟨(some 44), (.mv (.tmp 2)), none⟩, ⟨(some 45), (.call (.fnc 42) [(.tmp 42), (.tmp 43), (.tmp 44)]), none⟩, ⟨(some 6), (.mv (.tmp 45)), none⟩, ⟨(some 7), (.mv (.cst (.int .i64 (-1)))), none⟩, ⟨(some 8), (.mv (.cst (.int .i64 0))), none⟩]
def A24 : AFun := ⟨46, 3, [(.tmp 6), (.tmp 7), (.tmp 8)], (.seq (.reg A24r1 [0, 1, 2]) (.seq (.seq (.reg A24r2 [0, 1, 2, 9]) (.seq (.reg A24r3 [0, 1, 2, 9, 17]) (.cond (.tmp 17) [9] (.seq (.reg A24r4 [6, 7, 8]) .ret) [0, 1, 2] .skip))) (.seq (.seq (.reg A24r5 [0, 1, 2, 21, 22, 23]) (.block 0 (.loop A24l6))) (.seq (.reg A24r13 [6, 7, 8]) .ret))))⟩
theorem A24c : compF Try.prog Try.f24 = some A24 := by kernel_rfl
theorem A24k : Callable Try.prog 24 := fun a w => Try.call24 a w
theorem A24p {ds : List D} {r : D} (hl : ds.length ≤ A24.nt) (hw : W Try.prog A24.code (Fin A24.results r) ⟨argEnv 0 ds, fun _ => none⟩) : PCon Try.prog 24 ds r := pcon_of_W mixed Try.func24 A24k A24c hl hw
/- estovers/estoversref19.Charge -/
/- estovers/accounts.Uncharge -/
abbrev A26r1 : List AIns := [⟨(some 6), (.mv (.cst .nil)), none⟩, ⟨(some 7), (.mv (.cst (.int .i64 0))), none⟩]
abbrev A26r2 : List AIns := [⟨(some 9), (.mv (.tmp 0)), none⟩, ⟨(some 10), (.mv (.tmp 1)), none⟩, ⟨(some 11), (.mv (.tmp 2)), none⟩, ⟨(some 12), (.call (.fnc 41) [(.tmp 9), (.tmp 10), (.tmp 11)]), none⟩, ⟨(some 8), (.mv (.tmp 12)), none⟩]
abbrev A26r3 : List AIns := [⟨(some 13), (.mv (.tmp 8)), none⟩, ⟨(some 14), (.bin .neq (.tmp 13) (.cst (.int .i64 0))), none⟩]
abbrev A26r4 : List AIns := [⟨(some 15), (.mv (.tmp 8)), none⟩, ⟨(some 6), (.mv (.cst .nil)), none⟩, ⟨(some 7), (.mv (.tmp 15)), none⟩]
abbrev A26r5 : List AIns := [⟨(some 16), (.mv (.tmp 2)), none⟩, ⟨(some 17), (.mv (.tmp 0)), none⟩, ⟨(some 18), (.mv (.tmp 1)), none⟩, ⟨(some 19), (.call (.fnc 22) [(.tmp 17), (.tmp 18)]), none⟩, ⟨(some 20), (.bin .gtr (.tmp 16) (.tmp 19)), none⟩]
abbrev A26r6 : List AIns := [⟨(some 6), (.mv (.cst .nil)), none⟩, ⟨(some 7), (.mv (.cst (.int .i64 11))), none⟩]
abbrev A26r7 : List AIns := [⟨(some 21), (.mv (.tmp 0)), none⟩, ⟨(some 22), (.mv (.tmp 1)), none⟩, ⟨(some 23), (.mv (.tmp 2)), none⟩, ⟨(some 24), (.un .neg (.tmp 23)), none⟩, ⟨(some 25), (.call (.fnc 42) [(.tmp 21), (.tmp 22), (.tmp 24)]), none⟩, ⟨(some 6), (.mv (.tmp 25)), none⟩, ⟨(some 7), (.mv (.cst (.int .i64 0))), none⟩]
def A26 : AFun := ⟨26, 3, [(.tmp 6), (.tmp 7)], (.seq (.reg A26r1 [0, 1, 2]) (.seq (.seq (.reg A26r2 [0, 1, 2, 8]) (.seq (.reg A26r3 [0, 1, 2, 8, 14]) (.cond (.tmp 14) [8] (.seq (.reg A26r4 [6, 7]) .ret) [0, 1, 2] .skip))) (.seq (.seq (.reg A26r5 [0, 1, 2, 20]) (.cond (.tmp 20) [] (.seq (.reg A26r6 [6, 7]) .ret) [0, 1, 2] .skip)) (.seq (.reg A26r7 [6, 7]) .ret))))⟩
theorem A26c : compF Try.prog Try.f26 = some A26 := by kernel_rfl
theorem A26k : Callable Try.prog 26 := fun a w => Try.call26 a w
theorem A26p {ds : List D} {r : D} (hl : ds.length ≤ A26.nt) (hw : W Try.prog A26.code (Fin A26.results r) ⟨argEnv 0 ds, fun _ => none⟩) : PCon Try.prog 26 ds r := pcon_of_W mixed Try.func26 A26k A26c hl hw
/- estovers/estoversref19.Uncharge -/
/- estovers/estoversref19.Same -/
abbrev A28r1 : List AIns := [⟨(some 4), (.mv (.cst (.bool false))), none⟩]
abbrev A28r2 : List AIns := [⟨(some 6), (.mv (.tmp 0)), none⟩, ⟨(some 7), (.len (.tmp 6)), none⟩, ⟨(some 8), (.mv (.tmp 1)), none⟩, ⟨(some 9), (.len (.tmp 8)), none⟩, ⟨(some 10), (.bin .neq (.tmp 7) (.tmp 9)), none⟩]
abbrev A28r3 : List AIns := [⟨(some 4), (.mv (.cst (.bool false))), none⟩]
abbrev A28r4 : List AIns := [⟨(some 5), (.mv (.cst (.int .i64 0))), none⟩]
abbrev A28r6 : List AIns := [⟨(some 11), (.mv (.tmp 5)), none⟩, ⟨(some 12), (.mv (.tmp 0)), none⟩, ⟨(some 13), (.len (.tmp 12)), none⟩, ⟨(some 14), (.bin .lss (.tmp 11) (.tmp 13)), none⟩]
abbrev A28d7 : List AIns := [⟨(some 17), (.mv (.tmp 0)), none⟩, ⟨(some 18), (.mv (.tmp 5)), none⟩, ⟨(some 19), (.iaddr 5 (.tmp 17) (.tmp 18)), none⟩, ⟨(some 20), (.load true 5 (.tmp 19)), none⟩, ⟨(some 21), (.mv (.tmp 1)), none⟩, ⟨(some 22), (.mv (.tmp 5)), none⟩, ⟨(some 23), (.iaddr 5 (.tmp 21) (.tmp 22)), none⟩, ⟨(some 24), (.load true 5 (.tmp 23)), none⟩, ⟨(some 25), (.eqA true [1, 1, 1, 1, 1] (.tmp 20) (.tmp 24)), none⟩]
abbrev A28r8 : List AIns := [⟨(some 4), (.mv (.cst (.bool false))), none⟩]
abbrev A28c9 : ACode := (.seq (.dreg A28d7 [[], [], [0, 1], [0, 1, 2], [], [], [4, 5], [4, 5, 6], [0, 1, 2, 3, 4, 5, 6, 7]] [0, 1, 5, 25]) (.cond (.tmp 25) [] (.seq (.reg A28r8 [4]) .ret) [0, 1, 5] .skip))
abbrev A28r10 : List AIns := [⟨(some 15), (.mv (.tmp 5)), none⟩, ⟨(some 16), (.bin .add (.tmp 15) (.cst (.int .i64 1))), none⟩, ⟨(some 5), (.mv (.tmp 16)), none⟩]
abbrev A28l5 : ACode := (.seq (.seq (.reg A28r6 [0, 1, 5, 14]) (.cond (.tmp 14) [0, 1, 5] .skip [] (.exit 0))) (.seq (.block 1 A28c9) (.reg A28r10 [0, 1, 5])))
abbrev A28r11 : List AIns := [⟨(some 4), (.mv (.cst (.bool true))), none⟩]
def A28 : AFun := ⟨26, 2, [(.tmp 4)], (.seq (.reg A28r1 [0, 1]) (.seq (.seq (.reg A28r2 [0, 1, 10]) (.cond (.tmp 10) [] (.seq (.reg A28r3 [4]) .ret) [0, 1] .skip)) (.seq (.seq (.reg A28r4 [0, 1, 5]) (.block 0 (.loop A28l5))) (.seq (.reg A28r11 [4]) .ret))))⟩
theorem A28c : compF Try.prog Try.f28 = some A28 := by kernel_rfl
theorem A28k : Callable Try.prog 28 := fun a w => Try.call28 a w
theorem A28p {ds : List D} {r : D} (hl : ds.length ≤ A28.nt) (hw : W Try.prog A28.code (Fin A28.results r) ⟨argEnv 0 ds, fun _ => none⟩) : PCon Try.prog 28 ds r := pcon_of_W mixed Try.func28 A28k A28c hl hw
/- estovers/estoverslaw19.three -/
abbrev A29r1 : List AIns := [⟨(some 0), (.mv (.cst .nil)), none⟩]
abbrev A29r2 : List AIns := [⟨(some 1), (.build [(.int .i64 0), (.int .i64 0), (.int .i64 0), (.int .i64 0), (.int .i64 0)] [(0, (1, (.cst (.int .i64 (-1))))), (1, (1, (.cst (.int .i64 5)))), (4, (1, (.cst (.int .i64 10))))]), none⟩, ⟨(some 2), (.build [(.int .i64 0), (.int .i64 0), (.int .i64 0), (.int .i64 0), (.int .i64 0)] [(0, (1, (.cst (.int .i64 0)))), (1, (1, (.cst (.int .i64 4)))), (4, (1, (.cst (.int .i64 6))))]), none⟩, ⟨(some 3), (.build [(.int .i64 0), (.int .i64 0), (.int .i64 0), (.int .i64 0), (.int .i64 0)] [(0, (1, (.cst (.int .i64 1)))), (1, (1, (.cst (.int .i64 3)))), (4, (1, (.cst (.int .i64 8))))]), none⟩, ⟨(some 4), (.buildS 5 [(.int .i64 0), (.int .i64 0), (.int .i64 0), (.int .i64 0), (.int .i64 0)] 3 [(0, (5, (.tmp 1))), (5, (5, (.tmp 2))), (10, (5, (.tmp 3)))]), none⟩, ⟨(some 0), (.mv (.tmp 4)), none⟩]
def A29 : AFun := ⟨5, 0, [(.tmp 0)], (.seq (.reg A29r1 []) (.seq (.reg A29r2 [0]) .ret))⟩
theorem A29c : compF Try.prog Try.f29 = some A29 := by kernel_rfl
theorem A29k : Callable Try.prog 29 := fun a w => Try.call29 a w
theorem A29p {ds : List D} {r : D} (hl : ds.length ≤ A29.nt) (hw : W Try.prog A29.code (Fin A29.results r) ⟨argEnv 0 ds, fun _ => none⟩) : PCon Try.prog 29 ds r := pcon_of_W mixed Try.func29 A29k A29c hl hw
/- estovers/accounts.tree -/
abbrev A30r1 : List AIns := [⟨(some 2), (.mv (.cst (.bool false))), none⟩]
abbrev A30r2 : List AIns := [⟨(some 5), (.mv (.tmp 0)), none⟩, ⟨(some 6), (.len (.tmp 5)), none⟩, ⟨(some 7), (.mv (.cst (.int .i64 0))), none⟩]
abbrev A30r4 : List AIns := [⟨(some 8), (.bin .lss (.tmp 7) (.tmp 6)), none⟩]
abbrev A30r5 : List AIns := [⟨(some 9), (.mv (.tmp 7)), none⟩, ⟨(some 10), (.iaddr 5 (.tmp 5) (.tmp 7)), none⟩, ⟨(some 11), (.load true 5 (.tmp 10)), none⟩, ⟨(some 4), (.alloc [(.int .i64 0), (.int .i64 0), (.int .i64 0), (.int .i64 0), (.int .i64 0)]), none⟩, ⟨(some 3), (.mv (.tmp 9)), none⟩, ⟨none, (.store 5 (.tmp 4) (.tmp 11)), none⟩]
abbrev A30r6 : List AIns := [⟨(some 12), (.mv (.tmp 3)), none⟩, ⟨(some 13), (.bin .eql (.tmp 12) (.cst (.int .i64 0))), none⟩, ⟨(some 14), (.mv (.tmp 13)), none⟩, ⟨(some 15), (.faddr 0 (.tmp 4)), (some (14, true))⟩, ⟨(some 16), (.load false 1 (.tmp 15)), (some (14, true))⟩, ⟨(some 17), (.bin .neq (.tmp 16) (.cst (.int .i64 (-1)))), (some (14, true))⟩, ⟨(some 18), (.pick (.tmp 14) (.tmp 17) (.cst (.bool false))), none⟩, ⟨(some 19), (.mv (.tmp 18)), none⟩, ⟨(some 20), (.mv (.tmp 3)), (some (19, false))⟩, ⟨(some 21), (.bin .gtr (.tmp 20) (.cst (.int .i64 0))), (some (19, false))⟩, ⟨(some 22), (.mv (.tmp 21)), (some (19, false))⟩, ⟨(some 23), (.faddr 0 (.tmp 4)), (some (22, true))⟩, ⟨(some 24), (.load false 1 (.tmp 23)), (some (22, true))⟩, ⟨(some 25), (.bin .lss (.tmp 24) (.cst (.int .i64 0))), (some (22, true))⟩, ⟨(some 26), (.mv (.tmp 25)), (some (22, true))⟩, ⟨(some 27), (.faddr 0 (.tmp 4)), (some (26, false))⟩, ⟨(some 28), (.load false 1 (.tmp 27)), (some (26, false))⟩, ⟨(some 29), (.mv (.tmp 3)), (some (26, false))⟩, ⟨(some 30), (.bin .geq (.tmp 28) (.tmp 29)), (some (26, false))⟩, ⟨(some 31), (.pick (.tmp 26) (.cst (.bool true)) (.tmp 30)), (some (22, true))⟩, ⟨(some 32), (.pick (.tmp 22) (.tmp 31) (.cst (.bool false))), (some (19, false))⟩, ⟨(some 33), (.pick (.tmp 19) (.cst (.bool true)) (.tmp 32)), none⟩]
abbrev A30r7 : List AIns := [⟨(some 2), (.mv (.cst (.bool false))), none⟩]
abbrev A30c8 : ACode := (.seq (.reg A30r5 [3, 4, 5, 6, 7]) (.seq (.reg A30r6 [5, 6, 7, 33]) (.cond (.tmp 33) [] (.seq (.reg A30r7 [2]) .ret) [5, 6, 7] .skip)))
abbrev A30r9 : List AIns := [⟨(some 34), (.bin .add (.tmp 7) (.cst (.int .i64 1))), none⟩, ⟨(some 7), (.mv (.tmp 34)), none⟩]
abbrev A30l3 : ACode := (.seq (.reg A30r4 [5, 6, 7, 8]) (.seq (.cond (.tmp 8) [5, 6, 7] .skip [] (.exit 0)) (.seq (.block 1 A30c8) (.reg A30r9 [5, 6, 7]))))
abbrev A30r10 : List AIns := [⟨(some 2), (.mv (.cst (.bool true))), none⟩]
def A30 : AFun := ⟨35, 1, [(.tmp 2)], (.seq (.reg A30r1 [0]) (.seq (.seq (.reg A30r2 [5, 6, 7]) (.block 0 (.loop A30l3))) (.seq (.reg A30r10 [2]) .ret)))⟩
theorem A30c : compF Try.prog Try.f30 = some A30 := by kernel_rfl
theorem A30k : Callable Try.prog 30 := fun a w => Try.call30 a w
theorem A30p {ds : List D} {r : D} (hl : ds.length ≤ A30.nt) (hw : W Try.prog A30.code (Fin A30.results r) ⟨argEnv 0 ds, fun _ => none⟩) : PCon Try.prog 30 ds r := pcon_of_W mixed Try.func30 A30k A30c hl hw
/- estovers/accounts.amounts -/
abbrev A31r1 : List AIns := [⟨(some 2), (.mv (.cst (.bool false))), none⟩]
abbrev A31r2 : List AIns := [⟨(some 5), (.mv (.tmp 0)), none⟩, ⟨(some 6), (.len (.tmp 5)), none⟩, ⟨(some 7), (.mv (.cst (.int .i64 0))), none⟩]
abbrev A31r4 : List AIns := [⟨(some 8), (.bin .lss (.tmp 7) (.tmp 6)), none⟩]
abbrev A31r5 : List AIns := [⟨(some 9), (.iaddr 5 (.tmp 5) (.tmp 7)), none⟩, ⟨(some 10), (.load true 5 (.tmp 9)), none⟩, ⟨(some 4), (.alloc [(.int .i64 0), (.int .i64 0), (.int .i64 0), (.int .i64 0), (.int .i64 0)]), none⟩, ⟨none, (.store 5 (.tmp 4) (.tmp 10)), none⟩]
abbrev A31r6 : List AIns := [⟨(some 11), (.faddr 1 (.tmp 4)), none⟩, ⟨(some 12), (.load false 1 (.tmp 11)), none⟩, ⟨(some 13), (.call (.fnc 44) [(.tmp 12)]), none⟩, ⟨(some 14), (.un .not (.tmp 13)), none⟩, ⟨(some 15), (.mv (.tmp 14)), none⟩, ⟨(some 16), (.faddr 2 (.tmp 4)), (some (15, false))⟩, ⟨(some 17), (.load false 1 (.tmp 16)), (some (15, false))⟩, ⟨(some 18), (.call (.fnc 44) [(.tmp 17)]), (some (15, false))⟩, ⟨(some 19), (.un .not (.tmp 18)), (some (15, false))⟩, ⟨(some 20), (.pick (.tmp 15) (.cst (.bool true)) (.tmp 19)), none⟩, ⟨(some 21), (.mv (.tmp 20)), none⟩, ⟨(some 22), (.faddr 3 (.tmp 4)), (some (21, false))⟩, ⟨(some 23), (.load false 1 (.tmp 22)), (some (21, false))⟩, ⟨(some 24), (.call (.fnc 44) [(.tmp 23)]), (some (21, false))⟩, ⟨(some 25), (.un .not (.tmp 24)), (some (21, false))⟩, ⟨(some 26), (.pick (.tmp 21) (.cst (.bool true)) (.tmp 25)), none⟩, ⟨(some 27), (.mv (.tmp 26)), none⟩, ⟨(some 28), (.faddr 4 (.tmp 4)), (some (27, false))⟩, ⟨(some 29), (.load false 1 (.tmp 28)), (some (27, false))⟩, ⟨(some 30), (.call (.fnc 44) [(.tmp 29)]), (some (27, false))⟩, ⟨(some 31), (.un .not (.tmp 30)), (some (27, false))⟩, ⟨(some 32), (.pick (.tmp 27) (.cst (.bool true)) (.tmp 31)), none⟩]
abbrev A31r7 : List AIns := [⟨(some 2), (.mv (.cst (.bool false))), none⟩]
abbrev A31c8 : ACode := (.seq (.reg A31r5 [0, 4, 5, 6, 7]) (.seq (.reg A31r6 [0, 5, 6, 7, 32]) (.cond (.tmp 32) [] (.seq (.reg A31r7 [2]) .ret) [0, 5, 6, 7] .skip)))
abbrev A31r9 : List AIns := [⟨(some 33), (.bin .add (.tmp 7) (.cst (.int .i64 1))), none⟩, ⟨(some 7), (.mv (.tmp 33)), none⟩]
abbrev A31l3 : ACode := (.seq (.reg A31r4 [0, 5, 6, 7, 8]) (.seq (.cond (.tmp 8) [0, 5, 6, 7] .skip [0] (.exit 0)) (.seq (.block 1 A31c8) (.reg A31r9 [0, 5, 6, 7]))))
abbrev A31r10 : List AIns := [⟨(some 34), (.mv (.tmp 0)), none⟩, ⟨(some 35), (.iaddr 5 (.tmp 34) (.cst (.int .i64 0))), none⟩, ⟨(some 36), (.faddr 2 (.tmp 35)), none⟩, ⟨(some 37), (.load false 1 (.tmp 36)), none⟩, ⟨(some 38), (.bin .eql (.tmp 37) (.cst (.int .i64 0))), none⟩, ⟨(some 39), (.mv (.tmp 38)), none⟩, ⟨(some 40), (.mv (.tmp 0)), (some (39, true))⟩, ⟨(some 41), (.iaddr 5 (.tmp 40) (.cst (.int .i64 0))), (some (39, true))⟩, ⟨(some 42), (.faddr 3 (.tmp 41)), (some (39, true))⟩, ⟨(some 43), (.load false 1 (.tmp 42)), (some (39, true))⟩, ⟨(some 44), (.bin .eql (.tmp 43) (.cst (.int .i64 0))), (some (39, true))⟩, ⟨(some 45), (.pick (.tmp 39) (.tmp 44) (.cst (.bool false))), none⟩, ⟨(some 2), (.mv (.tmp 45)), none⟩]
def A31 : AFun := ⟨46, 1, [(.tmp 2)], (.seq (.reg A31r1 [0]) (.seq (.seq (.reg A31r2 [0, 5, 6, 7]) (.block 0 (.loop A31l3))) (.seq (.reg A31r10 [2]) .ret)))⟩
theorem A31c : compF Try.prog Try.f31 = some A31 := by kernel_rfl
theorem A31k : Callable Try.prog 31 := fun a w => Try.call31 a w
theorem A31p {ds : List D} {r : D} (hl : ds.length ≤ A31.nt) (hw : W Try.prog A31.code (Fin A31.results r) ⟨argEnv 0 ds, fun _ => none⟩) : PCon Try.prog 31 ds r := pcon_of_W mixed Try.func31 A31k A31c hl hw
/- slices.ContainsFunc[[]estovers/api.Account,estovers/api.Account] -/
abbrev A32r1 : List AIns := [⟨(some 4), (.mv (.cst (.bool false))), none⟩]
abbrev A32r2 : List AIns := [⟨(some 5), (.mv (.tmp 0)), none⟩, ⟨(some 6), (.mv (.tmp 1)), none⟩, ⟨(some 7), (.call (.fnc 45) [(.tmp 5), (.tmp 6)]), none⟩, ⟨(some 8), (.bin .geq (.tmp 7) (.cst (.int .i64 0))), none⟩, ⟨(some 4), (.mv (.tmp 8)), none⟩]
def A32 : AFun := ⟨9, 2, [(.tmp 4)], (.seq (.reg A32r1 [0, 1]) (.seq (.reg A32r2 [4]) .ret))⟩
theorem A32c : compF Try.prog Try.f32 = some A32 := by kernel_rfl
theorem A32k : Callable Try.prog 32 := fun a w => Try.call32 a w
theorem A32p {ds : List D} {r : D} (hl : ds.length ≤ A32.nt) (hw : W Try.prog A32.code (Fin A32.results r) ⟨argEnv 0 ds, fun _ => none⟩) : PCon Try.prog 32 ds r := pcon_of_W mixed Try.func32 A32k A32c hl hw
/- estovers/accounts.Check$1 -/
abbrev A33r1 : List AIns := [⟨(some 1), (.box (.tmp 0)), none⟩, ⟨(some 2), (.mv (.cst (.bool false))), none⟩]
abbrev A33r2 : List AIns := [⟨(some 3), (.faddr 1 (.tmp 1)), none⟩, ⟨(some 4), (.load false 1 (.tmp 3)), none⟩, ⟨(some 5), (.faddr 4 (.tmp 1)), none⟩, ⟨(some 6), (.load false 1 (.tmp 5)), none⟩, ⟨(some 7), (.bin .gtr (.tmp 4) (.tmp 6)), none⟩, ⟨(some 2), (.mv (.tmp 7)), none⟩]
def A33 : AFun := ⟨8, 1, [(.tmp 2)], (.seq (.reg A33r1 [1]) (.seq (.reg A33r2 [2]) .ret))⟩
theorem A33c : compF Try.prog Try.f33 = some A33 := by kernel_rfl
theorem A33k : Callable Try.prog 33 := fun a w => Try.call33 a w
theorem A33p {ds : List D} {r : D} (hl : ds.length ≤ A33.nt) (hw : W Try.prog A33.code (Fin A33.results r) ⟨argEnv 0 ds, fun _ => none⟩) : PCon Try.prog 33 ds r := pcon_of_W mixed Try.func33 A33k A33c hl hw
/- slices.Min[[]int,int] -/
abbrev A34r1 : List AIns := [⟨(some 2), (.mv (.cst (.int .i64 0))), none⟩]
abbrev A34r2 : List AIns := [⟨(some 5), (.mv (.tmp 0)), none⟩, ⟨(some 6), (.len (.tmp 5)), none⟩, ⟨(some 7), (.bin .lss (.tmp 6) (.cst (.int .i64 1))), none⟩]
abbrev A34r3 : List AIns := [⟨(some 8), .bad, none⟩, ⟨none, .bad, none⟩]
abbrev A34r4 : List AIns := [⟨(some 9), (.mv (.tmp 0)), none⟩, ⟨(some 10), (.iaddr 1 (.tmp 9) (.cst (.int .i64 0))), none⟩, ⟨(some 11), (.load false 1 (.tmp 10)), none⟩, ⟨(some 3), (.mv (.tmp 11)), none⟩]
abbrev A34r5 : List AIns := [⟨(some 4), (.mv (.cst (.int .i64 1))), none⟩]
abbrev A34r7 : List AIns := [⟨(some 12), (.mv (.tmp 4)), none⟩, ⟨(some 13), (.mv (.tmp 0)), none⟩, ⟨(some 14), (.len (.tmp 13)), none⟩, ⟨(some 15), (.bin .lss (.tmp 12) (.tmp 14)), none⟩]
abbrev A34r8 : List AIns := [⟨(some 18), (.mv (.tmp 3)), none⟩, ⟨(some 19), (.mv (.tmp 0)), none⟩, ⟨(some 20), (.mv (.tmp 4)), none⟩, ⟨(some 21), (.iaddr 1 (.tmp 19) (.tmp 20)), none⟩, ⟨(some 22), (.load false 1 (.tmp 21)), none⟩, ⟨(some 23), (.mima false [(.tmp 18), (.tmp 22)]), none⟩, ⟨(some 3), (.mv (.tmp 23)), none⟩]
abbrev A34r9 : List AIns := [⟨(some 16), (.mv (.tmp 4)), none⟩, ⟨(some 17), (.bin .add (.tmp 16) (.cst (.int .i64 1))), none⟩, ⟨(some 4), (.mv (.tmp 17)), none⟩]
abbrev A34l6 : ACode := (.seq (.seq (.reg A34r7 [0, 3, 4, 15]) (.cond (.tmp 15) [0, 3, 4] .skip [3] (.exit 0))) (.seq (.block 1 (.reg A34r8 [0, 3, 4])) (.reg A34r9 [0, 3, 4])))
abbrev A34r10 : List AIns := [⟨(some 24), (.mv (.tmp 3)), none⟩, ⟨(some 2), (.mv (.tmp 24)), none⟩]
def A34 : AFun := ⟨25, 1, [(.tmp 2)], (.seq (.reg A34r1 [0]) (.seq (.seq (.reg A34r2 [0, 7]) (.cond (.tmp 7) [0] (.reg A34r3 [0]) [0] .skip)) (.seq (.reg A34r4 [0, 3]) (.seq (.seq (.reg A34r5 [0, 3, 4]) (.block 0 (.loop A34l6))) (.seq (.reg A34r10 [2]) .ret)))))⟩
theorem A34c : compF Try.prog Try.f34 = some A34 := by kernel_rfl
theorem A34k : Callable Try.prog 34 := fun a w => Try.call34 a w
theorem A34p {ds : List D} {r : D} (hl : ds.length ≤ A34.nt) (hw : W Try.prog A34.code (Fin A34.results r) ⟨argEnv 0 ds, fun _ => none⟩) : PCon Try.prog 34 ds r := pcon_of_W mixed Try.func34 A34k A34c hl hw
/- estovers/accounts.own -/
abbrev A35r1 : List AIns := [⟨(some 2), (.mv (.cst .nil)), none⟩]
abbrev A35r2 : List AIns := [⟨(some 6), (.mv (.tmp 0)), none⟩, ⟨(some 7), (.len (.tmp 6)), none⟩, ⟨(some 8), (.mkslice 1 8 [(.int .i64 0)] (.tmp 7) (.tmp 7)), none⟩, ⟨(some 3), (.mv (.tmp 8)), none⟩]
abbrev A35r3 : List AIns := [⟨(some 9), (.mv (.tmp 0)), none⟩, ⟨(some 10), (.len (.tmp 9)), none⟩, ⟨(some 11), (.mv (.cst (.int .i64 0))), none⟩]
abbrev A35r5 : List AIns := [⟨(some 12), (.bin .lss (.tmp 11) (.tmp 10)), none⟩]
abbrev A35r6 : List AIns := [⟨(some 13), (.mv (.tmp 11)), none⟩, ⟨(some 14), (.iaddr 5 (.tmp 9) (.tmp 11)), none⟩, ⟨(some 15), (.load true 5 (.tmp 14)), none⟩, ⟨(some 5), (.alloc [(.int .i64 0), (.int .i64 0), (.int .i64 0), (.int .i64 0), (.int .i64 0)]), none⟩, ⟨(some 4), (.mv (.tmp 13)), none⟩, ⟨none, (.store 5 (.tmp 5) (.tmp 15)), none⟩]
abbrev A35d7 : List AIns := [⟨(some 16), (.mv (.tmp 3)), none⟩, ⟨(some 17), (.mv (.tmp 4)), none⟩, ⟨(some 18), (.iaddr 1 (.tmp 16) (.tmp 17)), none⟩, ⟨(some 19), (.load false 1 (.tmp 18)), none⟩, ⟨(some 20), (.faddr 1 (.tmp 5)), none⟩, ⟨(some 21), (.load false 1 (.tmp 20)), none⟩, ⟨(some 22), (.bin .add (.tmp 19) (.tmp 21)), none⟩, ⟨(some 23), (.iaddr 1 (.tmp 16) (.tmp 17)), none⟩, ⟨none, (.store 1 (.tmp 23) (.tmp 22)), none⟩]
abbrev A35d7p : List AIns := [⟨(some 16), (.mv (.tmp 3)), none⟩, ⟨(some 17), (.mv (.tmp 4)), none⟩, ⟨(some 18), (.iaddr 1 (.tmp 16) (.tmp 17)), none⟩, ⟨(some 19), (.load false 1 (.tmp 18)), none⟩, ⟨(some 20), (.faddr 1 (.tmp 5)), none⟩, ⟨(some 21), (.load false 1 (.tmp 20)), none⟩, ⟨(some 22), (.bin .add (.tmp 19) (.tmp 21)), none⟩, ⟨(some 23), (.iaddr 1 (.tmp 16) (.tmp 17)), none⟩]
abbrev A35r8 : List AIns := [⟨(some 24), (.mv (.tmp 4)), none⟩, ⟨(some 25), (.bin .gtr (.tmp 24) (.cst (.int .i64 0))), none⟩]
abbrev A35d9 : List AIns := [⟨(some 26), (.mv (.tmp 3)), none⟩, ⟨(some 27), (.faddr 0 (.tmp 5)), none⟩, ⟨(some 28), (.load false 1 (.tmp 27)), none⟩, ⟨(some 29), (.iaddr 1 (.tmp 26) (.tmp 28)), none⟩, ⟨(some 30), (.load false 1 (.tmp 29)), none⟩, ⟨(some 31), (.faddr 1 (.tmp 5)), none⟩, ⟨(some 32), (.load false 1 (.tmp 31)), none⟩, ⟨(some 33), (.bin .sub (.tmp 30) (.tmp 32)), none⟩, ⟨(some 34), (.iaddr 1 (.tmp 26) (.tmp 28)), none⟩, ⟨none, (.store 1 (.tmp 34) (.tmp 33)), none⟩]
abbrev A35d9p : List AIns := [⟨(some 26), (.mv (.tmp 3)), none⟩, ⟨(some 27), (.faddr 0 (.tmp 5)), none⟩, ⟨(some 28), (.load false 1 (.tmp 27)), none⟩, ⟨(some 29), (.iaddr 1 (.tmp 26) (.tmp 28)), none⟩, ⟨(some 30), (.load false 1 (.tmp 29)), none⟩, ⟨(some 31), (.faddr 1 (.tmp 5)), none⟩, ⟨(some 32), (.load false 1 (.tmp 31)), none⟩, ⟨(some 33), (.bin .sub (.tmp 30) (.tmp 32)), none⟩, ⟨(some 34), (.iaddr 1 (.tmp 26) (.tmp 28)), none⟩]
abbrev A35c10 : ACode := (.dreg A35d9 [[], [], [1], [0, 1, 2], [0, 1, 2, 3], [], [5], [0, 1, 2, 3, 4, 5, 6], [0, 1, 2, 3, 4, 5, 6, 7], [0, 1, 2, 3, 4, 5, 6, 7, 8]] [3, 9, 10, 11])
abbrev A35c11 : ACode := (.seq (.reg A35r6 [3, 4, 5, 9, 10, 11]) (.seq (.dreg A35d7 [[], [], [0, 1], [0, 1, 2], [], [4], [0, 1, 2, 3, 4, 5], [0, 1, 2, 3, 4, 5, 6], [0, 1, 2, 3, 4, 5, 6, 7]] [3, 4, 5, 9, 10, 11]) (.seq (.reg A35r8 [3, 5, 9, 10, 11, 25]) (.cond (.tmp 25) [3, 5, 9, 10, 11] A35c10 [3, 9, 10, 11] .skip))))
abbrev A35r12 : List AIns := [⟨(some 35), (.bin .add (.tmp 11) (.cst (.int .i64 1))), none⟩, ⟨(some 11), (.mv (.tmp 35)), none⟩]
abbrev A35l4 : ACode := (.seq (.reg A35r5 [3, 9, 10, 11, 12]) (.seq (.cond (.tmp 12) [3, 9, 10, 11] .skip [3] (.exit 0)) (.seq (.block 1 A35c11) (.reg A35r12 [3, 9, 10, 11]))))
abbrev A35r13 : List AIns := [⟨(some 36), (.mv (.tmp 3)), none⟩, ⟨(some 2), (.mv (.tmp 36)), none⟩]
def A35 : AFun := ⟨37, 1, [(.tmp 2)], (.seq (.reg A35r1 [0]) (.seq (.reg A35r2 [0, 3]) (.seq (.seq (.reg A35r3 [3, 9, 10, 11]) (.block 0 (.loop A35l4))) (.seq (.reg A35r13 [2]) .ret))))⟩
theorem A35c : compF Try.prog Try.f35 = some A35 := by kernel_rfl
theorem A35k : Callable Try.prog 35 := fun a w => Try.call35 a w
theorem A35p {ds : List D} {r : D} (hl : ds.length ≤ A35.nt) (hw : W Try.prog A35.code (Fin A35.results r) ⟨argEnv 0 ds, fun _ => none⟩) : PCon Try.prog 35 ds r := pcon_of_W mixed Try.func35 A35k A35c hl hw
/- estovers/estoversref19.in -/
/- estovers/estoversref19.kids -/
/- estovers/accounts.is -/
abbrev A38r1 : List AIns := [⟨(some 4), (.mv (.cst (.bool false))), none⟩]
abbrev A38r2 : List AIns := [⟨(some 5), (.mv (.tmp 0)), none⟩, ⟨(some 6), (.call (.fnc 12) [(.tmp 5)]), none⟩, ⟨(some 7), (.bin .eql (.tmp 6) (.cst (.int .i64 0))), none⟩, ⟨(some 8), (.mv (.tmp 7)), none⟩, ⟨(some 9), (.mv (.tmp 1)), (some (8, true))⟩, ⟨(some 10), (.bin .geq (.tmp 9) (.cst (.int .i64 0))), (some (8, true))⟩, ⟨(some 11), (.pick (.tmp 8) (.tmp 10) (.cst (.bool false))), none⟩, ⟨(some 12), (.mv (.tmp 11)), none⟩, ⟨(some 13), (.mv (.tmp 1)), (some (12, true))⟩, ⟨(some 14), (.mv (.tmp 0)), (some (12, true))⟩, ⟨(some 15), (.len (.tmp 14)), (some (12, true))⟩, ⟨(some 16), (.bin .lss (.tmp 13) (.tmp 15)), (some (12, true))⟩, ⟨(some 17), (.pick (.tmp 12) (.tmp 16) (.cst (.bool false))), none⟩, ⟨(some 4), (.mv (.tmp 17)), none⟩]
def A38 : AFun := ⟨18, 2, [(.tmp 4)], (.seq (.reg A38r1 [0, 1]) (.seq (.reg A38r2 [4]) .ret))⟩
theorem A38c : compF Try.prog Try.f38 = some A38 := by kernel_rfl
theorem A38k : Callable Try.prog 38 := fun a w => Try.call38 a w
theorem A38p {ds : List D} {r : D} (hl : ds.length ≤ A38.nt) (hw : W Try.prog A38.code (Fin A38.results r) ⟨argEnv 0 ds, fun _ => none⟩) : PCon Try.prog 38 ds r := pcon_of_W mixed Try.func38 A38k A38c hl hw
/- estovers/estoversref19.has -/
/- slices.Contains[[]int,int] -/
abbrev A40r1 : List AIns := [⟨(some 4), (.mv (.cst (.bool false))), none⟩]
abbrev A40r2 : List AIns := [⟨(some 5), (.mv (.tmp 0)), none⟩, ⟨(some 6), (.mv (.tmp 1)), none⟩, ⟨(some 7), (.call (.fnc 46) [(.tmp 5), (.tmp 6)]), none⟩, ⟨(some 8), (.bin .geq (.tmp 7) (.cst (.int .i64 0))), none⟩, ⟨(some 4), (.mv (.tmp 8)), none⟩]
def A40 : AFun := ⟨9, 2, [(.tmp 4)], (.seq (.reg A40r1 [0, 1]) (.seq (.reg A40r2 [4]) .ret))⟩
theorem A40c : compF Try.prog Try.f40 = some A40 := by kernel_rfl
theorem A40k : Callable Try.prog 40 := fun a w => Try.call40 a w
theorem A40p {ds : List D} {r : D} (hl : ds.length ≤ A40.nt) (hw : W Try.prog A40.code (Fin A40.results r) ⟨argEnv 0 ds, fun _ => none⟩) : PCon Try.prog 40 ds r := pcon_of_W mixed Try.func40 A40k A40c hl hw
/- estovers/accounts.request -/
abbrev A41r1 : List AIns := [⟨(some 6), (.mv (.cst (.int .i64 0))), none⟩]
abbrev A41r2 : List AIns := [⟨(some 8), (.mv (.tmp 0)), none⟩, ⟨(some 9), (.call (.fnc 12) [(.tmp 8)]), none⟩, ⟨(some 7), (.mv (.tmp 9)), none⟩]
abbrev A41r3 : List AIns := [⟨(some 11), (.mv (.tmp 7)), none⟩, ⟨(some 12), (.bin .neq (.tmp 11) (.cst (.int .i64 0))), none⟩, ⟨(some 10), (.mv (.tmp 12)), none⟩]
abbrev A41r4 : List AIns := [⟨(some 13), (.mv (.tmp 7)), none⟩, ⟨(some 6), (.mv (.tmp 13)), none⟩]
abbrev A41r5 : List AIns := [⟨(some 15), (.mv (.tmp 0)), none⟩, ⟨(some 16), (.mv (.tmp 1)), none⟩, ⟨(some 17), (.call (.fnc 38) [(.tmp 15), (.tmp 16)]), none⟩, ⟨(some 18), (.un .not (.tmp 17)), none⟩, ⟨(some 14), (.mv (.tmp 18)), none⟩]
abbrev A41r6 : List AIns := [⟨(some 6), (.mv (.cst (.int .i64 6))), none⟩]
abbrev A41r7 : List AIns := [⟨(some 20), (.mv (.tmp 2)), none⟩, ⟨(some 21), (.call (.fnc 44) [(.tmp 20)]), none⟩, ⟨(some 22), (.un .not (.tmp 21)), none⟩, ⟨(some 19), (.mv (.tmp 22)), none⟩]
abbrev A41r8 : List AIns := [⟨(some 6), (.mv (.cst (.int .i64 2))), none⟩]
abbrev A41c9 : ACode := (.seq (.reg A41r7 [19]) (.cond (.tmp 19) [] (.seq (.reg A41r8 [6]) .ret) [] .skip))
abbrev A41c10 : ACode := (.seq (.reg A41r5 [2, 14]) (.cond (.tmp 14) [] (.seq (.reg A41r6 [6]) .ret) [2] A41c9))
abbrev A41c11 : ACode := (.seq (.reg A41r3 [0, 1, 2, 7, 10]) (.cond (.tmp 10) [7] (.seq (.reg A41r4 [6]) .ret) [0, 1, 2] A41c10))
abbrev A41r12 : List AIns := [⟨(some 6), (.mv (.cst (.int .i64 0))), none⟩]
def A41 : AFun := ⟨23, 3, [(.tmp 6)], (.seq (.reg A41r1 [0, 1, 2]) (.seq (.reg A41r2 [0, 1, 2, 7]) (.seq (.block 0 A41c11) (.seq (.reg A41r12 [6]) .ret))))⟩
theorem A41c : compF Try.prog Try.f41 = some A41 := by kernel_rfl
theorem A41k : Callable Try.prog 41 := fun a w => Try.call41 a w
theorem A41p {ds : List D} {r : D} (hl : ds.length ≤ A41.nt) (hw : W Try.prog A41.code (Fin A41.results r) ⟨argEnv 0 ds, fun _ => none⟩) : PCon Try.prog 41 ds r := pcon_of_W mixed Try.func41 A41k A41c hl hw
/- estovers/accounts.add -/
abbrev A42r1 : List AIns := [⟨(some 6), (.mv (.cst .nil)), none⟩]
abbrev A42r2 : List AIns := [⟨(some 10), (.mv (.tmp 0)), none⟩, ⟨(some 11), (.call (.fnc 47) [(.tmp 10)]), none⟩, ⟨(some 7), (.mv (.tmp 11)), none⟩]
abbrev A42r3 : List AIns := [⟨(some 12), (.mv (.tmp 0)), none⟩, ⟨(some 13), (.mv (.tmp 1)), none⟩, ⟨(some 14), (.call (.fnc 16) [(.tmp 12), (.tmp 13)]), none⟩, ⟨(some 15), (.len (.tmp 14)), none⟩, ⟨(some 16), (.mv (.cst (.int .i64 0))), none⟩]
abbrev A42r5 : List AIns := [⟨(some 17), (.bin .lss (.tmp 16) (.tmp 15)), none⟩]
abbrev A42r6 : List AIns := [⟨(some 18), (.iaddr 1 (.tmp 14) (.tmp 16)), none⟩, ⟨(some 19), (.load false 1 (.tmp 18)), none⟩, ⟨(some 9), (.mv (.tmp 19)), none⟩]
abbrev A42r7 : List AIns := [⟨(some 20), (.mv (.tmp 7)), none⟩, ⟨(some 21), (.mv (.tmp 9)), none⟩, ⟨(some 22), (.iaddr 5 (.tmp 20) (.tmp 21)), none⟩, ⟨(some 23), (.faddr 1 (.tmp 22)), none⟩, ⟨(some 24), (.load false 1 (.tmp 23)), none⟩, ⟨(some 25), (.mv (.tmp 2)), none⟩, ⟨(some 26), (.bin .add (.tmp 24) (.tmp 25)), none⟩, ⟨(some 27), (.iaddr 5 (.tmp 20) (.tmp 21)), none⟩, ⟨(some 28), (.faddr 1 (.tmp 27)), none⟩, ⟨none, (.store 1 (.tmp 28) (.tmp 26)), none⟩]
abbrev A42c8 : ACode := (.seq (.reg A42r6 [2, 7, 9, 14, 15, 16]) (.reg A42r7 [2, 7, 14, 15, 16]))
abbrev A42r9 : List AIns := [⟨(some 29), (.bin .add (.tmp 16) (.cst (.int .i64 1))), none⟩, ⟨(some 16), (.mv (.tmp 29)), none⟩]
abbrev A42l4 : ACode := (.seq (.reg A42r5 [2, 7, 14, 15, 16, 17]) (.seq (.cond (.tmp 17) [2, 7, 14, 15, 16] .skip [7] (.exit 0)) (.seq (.block 1 A42c8) (.reg A42r9 [2, 7, 14, 15, 16]))))
abbrev A42r10 : List AIns := [⟨(some 30), (.mv (.tmp 7)), none⟩, ⟨(some 6), (.mv (.tmp 30)), none⟩]
def A42 : AFun := ⟨31, 3, [(.tmp 6)], (.seq (.reg A42r1 [0, 1, 2]) (.seq (.reg A42r2 [0, 1, 2, 7]) (.seq (.seq (.reg A42r3 [2, 7, 14, 15, 16]) (.block 0 (.loop A42l4))) (.seq (.reg A42r10 [6]) .ret))))⟩
theorem A42c : compF Try.prog Try.f42 = some A42 := by kernel_rfl
theorem A42k : Callable Try.prog 42 := fun a w => Try.call42 a w
theorem A42p {ds : List D} {r : D} (hl : ds.length ≤ A42.nt) (hw : W Try.prog A42.code (Fin A42.results r) ⟨argEnv 0 ds, fun _ => none⟩) : PCon Try.prog 42 ds r := pcon_of_W mixed Try.func42 A42k A42c hl hw
/- estovers/estoversref19.add -/
/- estovers/accounts.in -/
abbrev A44r1 : List AIns := [⟨(some 2), (.mv (.cst (.bool false))), none⟩]
abbrev A44r2 : List AIns := [⟨(some 3), (.mv (.tmp 0)), none⟩, ⟨(some 4), (.bin .geq (.tmp 3) (.cst (.int .i64 0))), none⟩, ⟨(some 5), (.mv (.tmp 4)), none⟩, ⟨(some 6), (.mv (.tmp 0)), (some (5, true))⟩, ⟨(some 7), (.bin .leq (.tmp 6) (.cst (.int .i64 1048576))), (some (5, true))⟩, ⟨(some 8), (.pick (.tmp 5) (.tmp 7) (.cst (.bool false))), none⟩, ⟨(some 2), (.mv (.tmp 8)), none⟩]
def A44 : AFun := ⟨9, 1, [(.tmp 2)], (.seq (.reg A44r1 [0]) (.seq (.reg A44r2 [2]) .ret))⟩
theorem A44c : compF Try.prog Try.f44 = some A44 := by kernel_rfl
theorem A44k : Callable Try.prog 44 := fun a w => Try.call44 a w
theorem A44p {ds : List D} {r : D} (hl : ds.length ≤ A44.nt) (hw : W Try.prog A44.code (Fin A44.results r) ⟨argEnv 0 ds, fun _ => none⟩) : PCon Try.prog 44 ds r := pcon_of_W mixed Try.func44 A44k A44c hl hw
/- slices.IndexFunc[[]estovers/api.Account,estovers/api.Account] -/
abbrev A45r1 : List AIns := [⟨(some 4), (.mv (.cst (.int .i64 0))), none⟩]
abbrev A45r2 : List AIns := [⟨(some 6), (.mv (.tmp 0)), none⟩, ⟨(some 7), (.len (.tmp 6)), none⟩, ⟨(some 8), (.mv (.cst (.int .i64 0))), none⟩]
abbrev A45r4 : List AIns := [⟨(some 9), (.bin .lss (.tmp 8) (.tmp 7)), none⟩]
abbrev A45r5 : List AIns := [⟨(some 10), (.mv (.tmp 8)), none⟩, ⟨(some 5), (.mv (.tmp 10)), none⟩]
abbrev A45r6 : List AIns := [⟨(some 11), (.mv (.tmp 1)), none⟩, ⟨(some 12), (.mv (.tmp 0)), none⟩, ⟨(some 13), (.mv (.tmp 5)), none⟩, ⟨(some 14), (.iaddr 5 (.tmp 12) (.tmp 13)), none⟩, ⟨(some 15), (.load true 5 (.tmp 14)), none⟩, ⟨(some 16), (.call (.tmp 11) [(.tmp 15)]), none⟩]
abbrev A45r7 : List AIns := [⟨(some 17), (.mv (.tmp 5)), none⟩, ⟨(some 4), (.mv (.tmp 17)), none⟩]
abbrev A45c8 : ACode := (.seq (.reg A45r5 [0, 1, 5, 7, 8]) (.seq (.reg A45r6 [0, 1, 5, 7, 8, 16]) (.cond (.tmp 16) [5] (.seq (.reg A45r7 [4]) .ret) [0, 1, 7, 8] .skip)))
abbrev A45r9 : List AIns := [⟨(some 18), (.bin .add (.tmp 8) (.cst (.int .i64 1))), none⟩, ⟨(some 8), (.mv (.tmp 18)), none⟩]
abbrev A45l3 : ACode := (.seq (.reg A45r4 [0, 1, 7, 8, 9]) (.seq (.cond (.tmp 9) [0, 1, 7, 8] .skip [] (.exit 0)) (.seq (.block 1 A45c8) (.reg A45r9 [0, 1, 7, 8]))))
abbrev A45r10 : List AIns := [⟨(some 4), (.mv (.cst (.int .i64 (-1)))), none⟩]
def A45 : AFun := ⟨19, 2, [(.tmp 4)], (.seq (.reg A45r1 [0, 1]) (.seq (.seq (.reg A45r2 [0, 1, 7, 8]) (.block 0 (.loop A45l3))) (.seq (.reg A45r10 [4]) .ret)))⟩
theorem A45c : compF Try.prog Try.f45 = some A45 := by kernel_rfl
theorem A45k : Callable Try.prog 45 := fun a w => Try.call45 a w
theorem A45p {ds : List D} {r : D} (hl : ds.length ≤ A45.nt) (hw : W Try.prog A45.code (Fin A45.results r) ⟨argEnv 0 ds, fun _ => none⟩) : PCon Try.prog 45 ds r := pcon_of_W mixed Try.func45 A45k A45c hl hw
/- slices.Index[[]int,int] -/
abbrev A46r1 : List AIns := [⟨(some 4), (.mv (.cst (.int .i64 0))), none⟩]
abbrev A46r2 : List AIns := [⟨(some 6), (.mv (.tmp 0)), none⟩, ⟨(some 7), (.len (.tmp 6)), none⟩, ⟨(some 8), (.mv (.cst (.int .i64 0))), none⟩]
abbrev A46r4 : List AIns := [⟨(some 9), (.bin .lss (.tmp 8) (.tmp 7)), none⟩]
abbrev A46r5 : List AIns := [⟨(some 10), (.mv (.tmp 8)), none⟩, ⟨(some 5), (.mv (.tmp 10)), none⟩]
abbrev A46r6 : List AIns := [⟨(some 11), (.mv (.tmp 1)), none⟩, ⟨(some 12), (.mv (.tmp 0)), none⟩, ⟨(some 13), (.mv (.tmp 5)), none⟩, ⟨(some 14), (.iaddr 1 (.tmp 12) (.tmp 13)), none⟩, ⟨(some 15), (.load false 1 (.tmp 14)), none⟩, ⟨(some 16), (.bin .eql (.tmp 11) (.tmp 15)), none⟩]
abbrev A46r7 : List AIns := [⟨(some 17), (.mv (.tmp 5)), none⟩, ⟨(some 4), (.mv (.tmp 17)), none⟩]
abbrev A46c8 : ACode := (.seq (.reg A46r5 [0, 1, 5, 7, 8]) (.seq (.reg A46r6 [0, 1, 5, 7, 8, 16]) (.cond (.tmp 16) [5] (.seq (.reg A46r7 [4]) .ret) [0, 1, 7, 8] .skip)))
abbrev A46r9 : List AIns := [⟨(some 18), (.bin .add (.tmp 8) (.cst (.int .i64 1))), none⟩, ⟨(some 8), (.mv (.tmp 18)), none⟩]
abbrev A46l3 : ACode := (.seq (.reg A46r4 [0, 1, 7, 8, 9]) (.seq (.cond (.tmp 9) [0, 1, 7, 8] .skip [] (.exit 0)) (.seq (.block 1 A46c8) (.reg A46r9 [0, 1, 7, 8]))))
abbrev A46r10 : List AIns := [⟨(some 4), (.mv (.cst (.int .i64 (-1)))), none⟩]
def A46 : AFun := ⟨19, 2, [(.tmp 4)], (.seq (.reg A46r1 [0, 1]) (.seq (.seq (.reg A46r2 [0, 1, 7, 8]) (.block 0 (.loop A46l3))) (.seq (.reg A46r10 [4]) .ret)))⟩
theorem A46c : compF Try.prog Try.f46 = some A46 := by kernel_rfl
theorem A46k : Callable Try.prog 46 := fun a w => Try.call46 a w
theorem A46p {ds : List D} {r : D} (hl : ds.length ≤ A46.nt) (hw : W Try.prog A46.code (Fin A46.results r) ⟨argEnv 0 ds, fun _ => none⟩) : PCon Try.prog 46 ds r := pcon_of_W mixed Try.func46 A46k A46c hl hw
/- slices.Clone[[]estovers/api.Account,estovers/api.Account] -/
abbrev A47r1 : List AIns := [⟨(some 2), (.mv (.cst .nil)), none⟩]
abbrev A47r2 : List AIns := [⟨(some 3), (.mv (.tmp 0)), none⟩, ⟨(some 4), (.eqN false (.tmp 3)), none⟩]
abbrev A47r3 : List AIns := [⟨(some 2), (.mv (.cst .nil)), none⟩]
abbrev A47r4 : List AIns := [⟨(some 5), (.buildS 5 [(.int .i64 0), (.int .i64 0), (.int .i64 0), (.int .i64 0), (.int .i64 0)] 0 []), none⟩, ⟨(some 6), (.mv (.tmp 0)), none⟩, ⟨(some 7), (.append 5 40 (.tmp 5) (.tmp 6)), none⟩, ⟨(some 2), (.mv (.tmp 7)), none⟩]
def A47 : AFun := ⟨8, 1, [(.tmp 2)], (.seq (.reg A47r1 [0]) (.seq (.seq (.reg A47r2 [0, 4]) (.cond (.tmp 4) [] (.seq (.reg A47r3 [2]) .ret) [0] .skip)) (.seq (.reg A47r4 [2]) .ret)))⟩
theorem A47c : compF Try.prog Try.f47 = some A47 := by kernel_rfl
theorem A47k : Callable Try.prog 47 := fun a w => Try.call47 a w
theorem A47p {ds : List D} {r : D} (hl : ds.length ≤ A47.nt) (hw : W Try.prog A47.code (Fin A47.results r) ⟨argEnv 0 ds, fun _ => none⟩) : PCon Try.prog 47 ds r := pcon_of_W mixed Try.func47 A47k A47c hl hw
/- estovers/estoversref19.Copy -/
end Go.Proofs.Ytmkcfadpofjokaa
