import Derived.Test.YthblalidmmbcoaaAmS
import Derived.Test.YthblalidmmbcoaaRows
import Derived.Test.YthblalidmmbcoaaAmZ3q643cc1
section
/- The compiled functions of this seat, in named pieces, each with the proof that it is what the compiler gives of the model's code. -/
set_option linter.unusedSimpArgs false
set_option linter.unusedVariables false
namespace Go.Proofs.Ythblalidmmbcoaa
open Go.AM
set_option maxRecDepth 100000
theorem mixed : Try.prog.follows .mixedOrders = true := by kernel_rfl
/- estovers/estoverslaw11.DurableChecks -/
/- estovers/estoverslaw11.DurableImages -/
/- estovers/estoverslaw11.DurableOrders -/
/- estovers/estoverslaw11.DurableOrdered -/
/- estovers/estoverslaw11.DurableContents -/
/- estovers/estoverslaw11.DurableFlushed -/
/- estovers/estoverslaw11.DurableKeeps -/
abbrev A9r1 : List AIns := [⟨(some 1), (.box (.tmp 0)), none⟩, ⟨(some 2), (.mv (.cst (.bool false))), none⟩]
abbrev A9r2 : List AIns := [⟨(some 21), (.load true 2 (.tmp 1)), none⟩, ⟨(some 22), (.call (.fnc 30) [(.tmp 21), (.cst (.int .i64 4)), (.cst (.int .i64 12))]), none⟩, ⟨(some 23), (.un .not (.tmp 22)), none⟩]
abbrev A9r3 : List AIns := [⟨(some 24), (.call (.fnc 15) []), none⟩, ⟨(some 2), (.mv (.tmp 24)), none⟩]
abbrev A9r4 : List AIns := [⟨(some 3), (.mv (.cst .nil)), none⟩]
abbrev A9r5 : List AIns := [⟨(some 4), (.mv (.cst (.int .i64 0))), none⟩]
abbrev A9r7 : List AIns := [⟨(some 25), (.mv (.tmp 4)), none⟩, ⟨(some 26), (.faddr 0 (.tmp 1)), none⟩, ⟨(some 27), (.load false 1 (.tmp 26)), none⟩, ⟨(some 28), (.len (.tmp 27)), none⟩, ⟨(some 29), (.bin .lss (.tmp 25) (.tmp 28)), none⟩]
abbrev A9r8 : List AIns := [⟨(some 32), (.mv (.tmp 3)), none⟩, ⟨(some 33), (.buildS 1 [(.int .u8 0)] 0 []), none⟩, ⟨(some 34), (.faddr 0 (.tmp 1)), none⟩, ⟨(some 35), (.load false 1 (.tmp 34)), none⟩, ⟨(some 36), (.mv (.tmp 4)), none⟩, ⟨(some 37), (.iaddr 1 (.tmp 35) (.tmp 36)), none⟩, ⟨(some 38), (.load false 1 (.tmp 37)), none⟩, ⟨(some 39), (.append 1 1 (.tmp 33) (.tmp 38)), none⟩, ⟨(some 40), (.buildS 1 [.nil] 1 [(0, (1, (.tmp 39)))]), none⟩, ⟨(some 41), (.append 1 24 (.tmp 32) (.tmp 40)), none⟩, ⟨(some 3), (.mv (.tmp 41)), none⟩]
abbrev A9r9 : List AIns := [⟨(some 30), (.mv (.tmp 4)), none⟩, ⟨(some 31), (.bin .add (.tmp 30) (.cst (.int .i64 1))), none⟩, ⟨(some 4), (.mv (.tmp 31)), none⟩]
abbrev A9l6 : ACode := (.seq (.seq (.reg A9r7 [1, 3, 4, 29]) (.cond (.tmp 29) [1, 3, 4] .skip [1, 3] (.exit 0))) (.seq (.block 1 (.reg A9r8 [1, 3, 4])) (.reg A9r9 [1, 3, 4])))
abbrev A9r10 : List AIns := [⟨(some 5), (.mv (.cst .nil)), none⟩]
abbrev A9r11 : List AIns := [⟨(some 6), (.mv (.cst (.int .i64 0))), none⟩]
abbrev A9r13 : List AIns := [⟨(some 42), (.mv (.tmp 6)), none⟩, ⟨(some 43), (.faddr 1 (.tmp 1)), none⟩, ⟨(some 44), (.load false 1 (.tmp 43)), none⟩, ⟨(some 45), (.len (.tmp 44)), none⟩, ⟨(some 46), (.bin .lss (.tmp 42) (.tmp 45)), none⟩]
abbrev A9r14 : List AIns := [⟨(some 49), (.faddr 1 (.tmp 1)), none⟩, ⟨(some 50), (.load false 1 (.tmp 49)), none⟩, ⟨(some 51), (.mv (.tmp 6)), none⟩, ⟨(some 52), (.iaddr 4 (.tmp 50) (.tmp 51)), none⟩, ⟨(some 53), (.load true 4 (.tmp 52)), none⟩, ⟨(some 7), (.alloc [(.int .i64 0), (.int .i64 0), (.int .i64 0), .nil]), none⟩, ⟨none, (.store 4 (.tmp 7) (.tmp 53)), none⟩]
abbrev A9r15 : List AIns := [⟨(some 54), (.buildS 1 [(.int .u8 0)] 0 []), none⟩, ⟨(some 55), (.faddr 3 (.tmp 7)), none⟩, ⟨(some 56), (.load false 1 (.tmp 55)), none⟩, ⟨(some 57), (.append 1 1 (.tmp 54) (.tmp 56)), none⟩, ⟨(some 58), (.faddr 3 (.tmp 7)), none⟩, ⟨none, (.store 1 (.tmp 58) (.tmp 57)), none⟩]
abbrev A9r16 : List AIns := [⟨(some 59), (.mv (.tmp 5)), none⟩, ⟨(some 60), (.load true 4 (.tmp 7)), none⟩, ⟨(some 61), (.buildS 4 [(.int .i64 0), (.int .i64 0), (.int .i64 0), .nil] 1 [(0, (4, (.tmp 60)))]), none⟩, ⟨(some 62), (.append 4 48 (.tmp 59) (.tmp 61)), none⟩, ⟨(some 5), (.mv (.tmp 62)), none⟩]
abbrev A9c17 : ACode := (.seq (.reg A9r14 [1, 3, 5, 6, 7]) (.seq (.reg A9r15 [1, 3, 5, 6, 7]) (.reg A9r16 [1, 3, 5, 6])))
abbrev A9r18 : List AIns := [⟨(some 47), (.mv (.tmp 6)), none⟩, ⟨(some 48), (.bin .add (.tmp 47) (.cst (.int .i64 1))), none⟩, ⟨(some 6), (.mv (.tmp 48)), none⟩]
abbrev A9l12 : ACode := (.seq (.seq (.reg A9r13 [1, 3, 5, 6, 46]) (.cond (.tmp 46) [1, 3, 5, 6] .skip [1, 3, 5] (.exit 2))) (.seq (.block 3 A9c17) (.reg A9r18 [1, 3, 5, 6])))
abbrev A9r19 : List AIns := [⟨(some 64), (.mv (.tmp 3)), none⟩, ⟨(some 65), (.mv (.tmp 5)), none⟩, ⟨(some 66), (.call (.fnc 25) [(.tmp 64), (.tmp 65)]), none⟩, ⟨(some 63), (.mv (.tmp 66)), none⟩, ⟨(some 67), (.extract 0 (.tmp 63)), none⟩, ⟨(some 68), (.extract 1 (.tmp 63)), none⟩, ⟨(some 8), (.mv (.tmp 67)), none⟩, ⟨(some 9), (.mv (.tmp 68)), none⟩]
abbrev A9r20 : List AIns := [⟨(some 70), (.mv (.tmp 3)), none⟩, ⟨(some 71), (.mv (.tmp 5)), none⟩, ⟨(some 72), (.call (.fnc 26) [(.tmp 70), (.tmp 71)]), none⟩, ⟨(some 69), (.mv (.tmp 72)), none⟩, ⟨(some 73), (.extract 0 (.tmp 69)), none⟩, ⟨(some 74), (.extract 1 (.tmp 69)), none⟩, ⟨(some 10), (.mv (.tmp 73)), none⟩, ⟨(some 11), (.mv (.tmp 74)), none⟩]
abbrev A9r21 : List AIns := [⟨(some 76), (.mv (.tmp 3)), none⟩, ⟨(some 77), (.mv (.tmp 5)), none⟩, ⟨(some 78), (.call (.fnc 23) [(.tmp 76), (.tmp 77), (.cst (.int .i64 0))]), none⟩, ⟨(some 75), (.mv (.tmp 78)), none⟩, ⟨(some 79), (.extract 0 (.tmp 75)), none⟩, ⟨(some 80), (.extract 1 (.tmp 75)), none⟩, ⟨(some 12), (.mv (.tmp 79)), none⟩, ⟨(some 13), (.mv (.tmp 80)), none⟩]
abbrev A9r22 : List AIns := [⟨(some 82), (.mv (.tmp 3)), none⟩, ⟨(some 83), (.mv (.tmp 5)), none⟩, ⟨(some 84), (.call (.fnc 18) [(.tmp 82), (.tmp 83)]), none⟩, ⟨(some 81), (.mv (.tmp 84)), none⟩, ⟨(some 85), (.extract 0 (.tmp 81)), none⟩, ⟨(some 86), (.extract 1 (.tmp 81)), none⟩, ⟨(some 14), (.mv (.tmp 85)), none⟩, ⟨(some 15), (.mv (.tmp 86)), none⟩]
abbrev A9r23 : List AIns := [⟨(some 87), (.mv (.tmp 8)), none⟩, ⟨(some 88), (.mv (.tmp 10)), none⟩, ⟨(some 89), (.mv (.tmp 12)), none⟩, ⟨(some 90), (.buildS 1 [.nil] 3 [(0, (1, (.tmp 87))), (1, (1, (.tmp 88))), (2, (1, (.tmp 89)))]), none⟩, ⟨(some 91), (.mv (.tmp 14)), none⟩, ⟨(some 92), (.append 1 24 (.tmp 90) (.tmp 91)), none⟩, ⟨(some 16), (.mv (.tmp 92)), none⟩]
abbrev A9r24 : List AIns := [⟨(some 17), (.mv (.cst (.int .i64 0))), none⟩]
abbrev A9r26 : List AIns := [⟨(some 93), (.mv (.tmp 17)), none⟩, ⟨(some 94), (.mv (.tmp 16)), none⟩, ⟨(some 95), (.len (.tmp 94)), none⟩, ⟨(some 96), (.bin .lss (.tmp 93) (.tmp 95)), none⟩]
abbrev A9r27 : List AIns := [⟨(some 18), (.mv (.cst (.int .i64 0))), none⟩]
abbrev A9r29 : List AIns := [⟨(some 99), (.mv (.tmp 18)), none⟩, ⟨(some 100), (.mv (.tmp 16)), none⟩, ⟨(some 101), (.mv (.tmp 17)), none⟩, ⟨(some 102), (.iaddr 1 (.tmp 100) (.tmp 101)), none⟩, ⟨(some 103), (.load false 1 (.tmp 102)), none⟩, ⟨(some 104), (.len (.tmp 103)), none⟩, ⟨(some 105), (.bin .lss (.tmp 99) (.tmp 104)), none⟩]
abbrev A9r30 : List AIns := [⟨(some 19), (.mv (.cst (.int .i64 0))), none⟩]
abbrev A9r32 : List AIns := [⟨(some 108), (.mv (.tmp 19)), none⟩, ⟨(some 109), (.mv (.tmp 16)), none⟩, ⟨(some 110), (.mv (.tmp 17)), none⟩, ⟨(some 111), (.iaddr 1 (.tmp 109) (.tmp 110)), none⟩, ⟨(some 112), (.load false 1 (.tmp 111)), none⟩, ⟨(some 113), (.mv (.tmp 18)), none⟩, ⟨(some 114), (.iaddr 1 (.tmp 112) (.tmp 113)), none⟩, ⟨(some 115), (.load false 1 (.tmp 114)), none⟩, ⟨(some 116), (.len (.tmp 115)), none⟩, ⟨(some 117), (.bin .lss (.tmp 108) (.tmp 116)), none⟩]
abbrev A9r33 : List AIns := [⟨(some 120), (.mv (.tmp 16)), none⟩, ⟨(some 121), (.mv (.tmp 17)), none⟩, ⟨(some 122), (.iaddr 1 (.tmp 120) (.tmp 121)), none⟩, ⟨(some 123), (.load false 1 (.tmp 122)), none⟩, ⟨(some 124), (.mv (.tmp 18)), none⟩, ⟨(some 125), (.iaddr 1 (.tmp 123) (.tmp 124)), none⟩, ⟨(some 126), (.load false 1 (.tmp 125)), none⟩, ⟨(some 127), (.mv (.tmp 19)), none⟩, ⟨(some 128), (.iaddr 1 (.tmp 126) (.tmp 127)), none⟩, ⟨(some 129), (.load false 1 (.tmp 128)), none⟩, ⟨(some 130), (.bin .xor (.tmp 129) (.cst (.int .u8 255))), none⟩, ⟨(some 131), (.iaddr 1 (.tmp 126) (.tmp 127)), none⟩, ⟨none, (.store 1 (.tmp 131) (.tmp 130)), none⟩]
abbrev A9r34 : List AIns := [⟨(some 118), (.mv (.tmp 19)), none⟩, ⟨(some 119), (.bin .add (.tmp 118) (.cst (.int .i64 1))), none⟩, ⟨(some 19), (.mv (.tmp 119)), none⟩]
abbrev A9l31 : ACode := (.seq (.seq (.reg A9r32 [1, 3, 5, 16, 17, 18, 19, 117]) (.cond (.tmp 117) [1, 3, 5, 16, 17, 18, 19] .skip [1, 3, 5, 16, 17, 18] (.exit 8))) (.seq (.block 9 (.reg A9r33 [1, 3, 5, 16, 17, 18, 19])) (.reg A9r34 [1, 3, 5, 16, 17, 18, 19])))
abbrev A9c35 : ACode := (.seq (.reg A9r30 [1, 3, 5, 16, 17, 18, 19]) (.block 8 (.loop A9l31)))
abbrev A9r36 : List AIns := [⟨(some 106), (.mv (.tmp 18)), none⟩, ⟨(some 107), (.bin .add (.tmp 106) (.cst (.int .i64 1))), none⟩, ⟨(some 18), (.mv (.tmp 107)), none⟩]
abbrev A9l28 : ACode := (.seq (.seq (.reg A9r29 [1, 3, 5, 16, 17, 18, 105]) (.cond (.tmp 105) [1, 3, 5, 16, 17, 18] .skip [1, 3, 5, 16, 17] (.exit 6))) (.seq (.block 7 A9c35) (.reg A9r36 [1, 3, 5, 16, 17, 18])))
abbrev A9c37 : ACode := (.seq (.reg A9r27 [1, 3, 5, 16, 17, 18]) (.block 6 (.loop A9l28)))
abbrev A9r38 : List AIns := [⟨(some 97), (.mv (.tmp 17)), none⟩, ⟨(some 98), (.bin .add (.tmp 97) (.cst (.int .i64 1))), none⟩, ⟨(some 17), (.mv (.tmp 98)), none⟩]
abbrev A9l25 : ACode := (.seq (.seq (.reg A9r26 [1, 3, 5, 16, 17, 96]) (.cond (.tmp 96) [1, 3, 5, 16, 17] .skip [1, 3, 5] (.exit 4))) (.seq (.block 5 A9c37) (.reg A9r38 [1, 3, 5, 16, 17])))
abbrev A9r39 : List AIns := [⟨(some 132), (.mv (.tmp 3)), none⟩, ⟨(some 133), (.faddr 0 (.tmp 1)), none⟩, ⟨(some 134), (.load false 1 (.tmp 133)), none⟩, ⟨(some 135), (.call (.fnc 20) [(.tmp 132), (.tmp 134)]), none⟩, ⟨(some 136), (.un .not (.tmp 135)), none⟩]
abbrev A9r40 : List AIns := [⟨(some 2), (.mv (.cst (.bool false))), none⟩]
abbrev A9r41 : List AIns := [⟨(some 20), (.mv (.cst (.int .i64 0))), none⟩]
abbrev A9r43 : List AIns := [⟨(some 137), (.mv (.tmp 20)), none⟩, ⟨(some 138), (.mv (.tmp 5)), none⟩, ⟨(some 139), (.len (.tmp 138)), none⟩, ⟨(some 140), (.bin .lss (.tmp 137) (.tmp 139)), none⟩]
abbrev A9d44 : List AIns := [⟨(some 143), (.mv (.tmp 5)), none⟩, ⟨(some 144), (.mv (.tmp 20)), none⟩, ⟨(some 145), (.iaddr 4 (.tmp 143) (.tmp 144)), none⟩, ⟨(some 146), (.faddr 3 (.tmp 145)), none⟩, ⟨(some 147), (.load false 1 (.tmp 146)), none⟩, ⟨(some 148), (.strB (.tmp 147)), none⟩, ⟨(some 149), (.faddr 1 (.tmp 1)), none⟩, ⟨(some 150), (.load false 1 (.tmp 149)), none⟩, ⟨(some 151), (.mv (.tmp 20)), none⟩, ⟨(some 152), (.iaddr 4 (.tmp 150) (.tmp 151)), none⟩, ⟨(some 153), (.faddr 3 (.tmp 152)), none⟩, ⟨(some 154), (.load false 1 (.tmp 153)), none⟩, ⟨(some 155), (.strB (.tmp 154)), none⟩, ⟨(some 156), (.bin .neq (.tmp 148) (.tmp 155)), none⟩, ⟨(some 157), (.mv (.tmp 156)), none⟩, ⟨(some 158), (.mv (.tmp 5)), (some (157, false))⟩, ⟨(some 159), (.mv (.tmp 20)), (some (157, false))⟩, ⟨(some 160), (.iaddr 4 (.tmp 158) (.tmp 159)), (some (157, false))⟩, ⟨(some 161), (.faddr 0 (.tmp 160)), (some (157, false))⟩, ⟨(some 162), (.load false 1 (.tmp 161)), (some (157, false))⟩, ⟨(some 163), (.faddr 1 (.tmp 1)), (some (157, false))⟩, ⟨(some 164), (.load false 1 (.tmp 163)), (some (157, false))⟩, ⟨(some 165), (.mv (.tmp 20)), (some (157, false))⟩, ⟨(some 166), (.iaddr 4 (.tmp 164) (.tmp 165)), (some (157, false))⟩, ⟨(some 167), (.faddr 0 (.tmp 166)), (some (157, false))⟩, ⟨(some 168), (.load false 1 (.tmp 167)), (some (157, false))⟩, ⟨(some 169), (.bin .neq (.tmp 162) (.tmp 168)), (some (157, false))⟩, ⟨(some 170), (.pick (.tmp 157) (.cst (.bool true)) (.tmp 169)), none⟩, ⟨(some 171), (.mv (.tmp 170)), none⟩, ⟨(some 172), (.mv (.tmp 5)), (some (171, false))⟩, ⟨(some 173), (.mv (.tmp 20)), (some (171, false))⟩, ⟨(some 174), (.iaddr 4 (.tmp 172) (.tmp 173)), (some (171, false))⟩, ⟨(some 175), (.faddr 1 (.tmp 174)), (some (171, false))⟩, ⟨(some 176), (.load false 1 (.tmp 175)), (some (171, false))⟩, ⟨(some 177), (.faddr 1 (.tmp 1)), (some (171, false))⟩, ⟨(some 178), (.load false 1 (.tmp 177)), (some (171, false))⟩, ⟨(some 179), (.mv (.tmp 20)), (some (171, false))⟩, ⟨(some 180), (.iaddr 4 (.tmp 178) (.tmp 179)), (some (171, false))⟩, ⟨(some 181), (.faddr 1 (.tmp 180)), (some (171, false))⟩, ⟨(some 182), (.load false 1 (.tmp 181)), (some (171, false))⟩, ⟨(some 183), (.bin .neq (.tmp 176) (.tmp 182)), (some (171, false))⟩, ⟨(some 184), (.pick (.tmp 171) (.cst (.bool true)) (.tmp 183)), none⟩, ⟨(some 185), (.mv (.tmp 184)), none⟩, ⟨(some 186), (.mv (.tmp 5)), (some (185, false))⟩, ⟨(some 187), (.mv (.tmp 20)), (some (185, false))⟩, ⟨(some 188), (.iaddr 4 (.tmp 186) (.tmp 187)), (some (185, false))⟩, ⟨(some 189), (.faddr 2 (.tmp 188)), (some (185, false))⟩, ⟨(some 190), (.load false 1 (.tmp 189)), (some (185, false))⟩, ⟨(some 191), (.faddr 1 (.tmp 1)), (some (185, false))⟩, ⟨(some 192), (.load false 1 (.tmp 191)), (some (185, false))⟩, ⟨(some 193), (.mv (.tmp 20)), (some (185, false))⟩, ⟨(some 194), (.iaddr 4 (.tmp 192) (.tmp 193)), (some (185, false))⟩, ⟨(some 195), (.faddr 2 (.tmp 194)), (some (185, false))⟩, ⟨(some 196), (.load false 1 (.tmp 195)), (some (185, false))⟩, ⟨(some 197), (.bin .neq (.tmp 190) (.tmp 196)), (some (185, false))⟩, ⟨(some 198), (.pick (.tmp 185) (.cst (.bool true)) (.tmp 197)), none⟩]
abbrev A9r45 : List AIns := [⟨(some 2), (.mv (.cst (.bool false))), none⟩]
abbrev A9c46 : ACode := (.seq (.dreg A9d44 [[], [], [0, 1], [0, 1, 2], [0, 1, 2, 3], [0, 1, 2, 3, 4], [], [6], [], [6, 7, 8], [6, 7, 8, 9], [6, 7, 8, 9, 10], [6, 7, 8, 9, 10, 11], [0, 1, 2, 3, 4, 5, 6, 7, 8, 9, 10, 11, 12], [0, 1, 2, 3, 4, 5, 6, 7, 8, 9, 10, 11, 12, 13], [0, 1, 2, 3, 4, 5, 6, 7, 8, 9, 10, 11, 12, 13, 14], [0, 1, 2, 3, 4, 5, 6, 7, 8, 9, 10, 11, 12, 13, 14], [0, 1, 2, 3, 4, 5, 6, 7, 8, 9, 10, 11, 12, 13, 14, 15, 16], [0, 1, 2, 3, 4, 5, 6, 7, 8, 9, 10, 11, 12, 13, 14, 15, 16, 17], [0, 1, 2, 3, 4, 5, 6, 7, 8, 9, 10, 11, 12, 13, 14, 15, 16, 17, 18], [0, 1, 2, 3, 4, 5, 6, 7, 8, 9, 10, 11, 12, 13, 14], [0, 1, 2, 3, 4, 5, 6, 7, 8, 9, 10, 11, 12, 13, 14, 20], [0, 1, 2, 3, 4, 5, 6, 7, 8, 9, 10, 11, 12, 13, 14], [0, 1, 2, 3, 4, 5, 6, 7, 8, 9, 10, 11, 12, 13, 14, 20, 21, 22], [0, 1, 2, 3, 4, 5, 6, 7, 8, 9, 10, 11, 12, 13, 14, 20, 21, 22, 23], [0, 1, 2, 3, 4, 5, 6, 7, 8, 9, 10, 11, 12, 13, 14, 20, 21, 22, 23, 24], [0, 1, 2, 3, 4, 5, 6, 7, 8, 9, 10, 11, 12, 13, 14, 15, 16, 17, 18, 19, 20, 21, 22, 23, 24, 25], [0, 1, 2, 3, 4, 5, 6, 7, 8, 9, 10, 11, 12, 13, 14, 15, 16, 17, 18, 19, 20, 21, 22, 23, 24, 25, 26], [0, 1, 2, 3, 4, 5, 6, 7, 8, 9, 10, 11, 12, 13, 14, 15, 16, 17, 18, 19, 20, 21, 22, 23, 24, 25, 26, 27], [0, 1, 2, 3, 4, 5, 6, 7, 8, 9, 10, 11, 12, 13, 14, 15, 16, 17, 18, 19, 20, 21, 22, 23, 24, 25, 26, 27, 28], [0, 1, 2, 3, 4, 5, 6, 7, 8, 9, 10, 11, 12, 13, 14, 15, 16, 17, 18, 19, 20, 21, 22, 23, 24, 25, 26, 27, 28], [0, 1, 2, 3, 4, 5, 6, 7, 8, 9, 10, 11, 12, 13, 14, 15, 16, 17, 18, 19, 20, 21, 22, 23, 24, 25, 26, 27, 28, 29, 30], [0, 1, 2, 3, 4, 5, 6, 7, 8, 9, 10, 11, 12, 13, 14, 15, 16, 17, 18, 19, 20, 21, 22, 23, 24, 25, 26, 27, 28, 29, 30, 31], [0, 1, 2, 3, 4, 5, 6, 7, 8, 9, 10, 11, 12, 13, 14, 15, 16, 17, 18, 19, 20, 21, 22, 23, 24, 25, 26, 27, 28, 29, 30, 31, 32], [0, 1, 2, 3, 4, 5, 6, 7, 8, 9, 10, 11, 12, 13, 14, 15, 16, 17, 18, 19, 20, 21, 22, 23, 24, 25, 26, 27, 28], [0, 1, 2, 3, 4, 5, 6, 7, 8, 9, 10, 11, 12, 13, 14, 15, 16, 17, 18, 19, 20, 21, 22, 23, 24, 25, 26, 27, 28, 34], [0, 1, 2, 3, 4, 5, 6, 7, 8, 9, 10, 11, 12, 13, 14, 15, 16, 17, 18, 19, 20, 21, 22, 23, 24, 25, 26, 27, 28], [0, 1, 2, 3, 4, 5, 6, 7, 8, 9, 10, 11, 12, 13, 14, 15, 16, 17, 18, 19, 20, 21, 22, 23, 24, 25, 26, 27, 28, 34, 35, 36], [0, 1, 2, 3, 4, 5, 6, 7, 8, 9, 10, 11, 12, 13, 14, 15, 16, 17, 18, 19, 20, 21, 22, 23, 24, 25, 26, 27, 28, 34, 35, 36, 37], [0, 1, 2, 3, 4, 5, 6, 7, 8, 9, 10, 11, 12, 13, 14, 15, 16, 17, 18, 19, 20, 21, 22, 23, 24, 25, 26, 27, 28, 34, 35, 36, 37, 38], [0, 1, 2, 3, 4, 5, 6, 7, 8, 9, 10, 11, 12, 13, 14, 15, 16, 17, 18, 19, 20, 21, 22, 23, 24, 25, 26, 27, 28, 29, 30, 31, 32, 33, 34, 35, 36, 37, 38, 39], [0, 1, 2, 3, 4, 5, 6, 7, 8, 9, 10, 11, 12, 13, 14, 15, 16, 17, 18, 19, 20, 21, 22, 23, 24, 25, 26, 27, 28, 29, 30, 31, 32, 33, 34, 35, 36, 37, 38, 39, 40], [0, 1, 2, 3, 4, 5, 6, 7, 8, 9, 10, 11, 12, 13, 14, 15, 16, 17, 18, 19, 20, 21, 22, 23, 24, 25, 26, 27, 28, 29, 30, 31, 32, 33, 34, 35, 36, 37, 38, 39, 40, 41], [0, 1, 2, 3, 4, 5, 6, 7, 8, 9, 10, 11, 12, 13, 14, 15, 16, 17, 18, 19, 20, 21, 22, 23, 24, 25, 26, 27, 28, 29, 30, 31, 32, 33, 34, 35, 36, 37, 38, 39, 40, 41, 42], [0, 1, 2, 3, 4, 5, 6, 7, 8, 9, 10, 11, 12, 13, 14, 15, 16, 17, 18, 19, 20, 21, 22, 23, 24, 25, 26, 27, 28, 29, 30, 31, 32, 33, 34, 35, 36, 37, 38, 39, 40, 41, 42], [0, 1, 2, 3, 4, 5, 6, 7, 8, 9, 10, 11, 12, 13, 14, 15, 16, 17, 18, 19, 20, 21, 22, 23, 24, 25, 26, 27, 28, 29, 30, 31, 32, 33, 34, 35, 36, 37, 38, 39, 40, 41, 42, 43, 44], [0, 1, 2, 3, 4, 5, 6, 7, 8, 9, 10, 11, 12, 13, 14, 15, 16, 17, 18, 19, 20, 21, 22, 23, 24, 25, 26, 27, 28, 29, 30, 31, 32, 33, 34, 35, 36, 37, 38, 39, 40, 41, 42, 43, 44, 45], [0, 1, 2, 3, 4, 5, 6, 7, 8, 9, 10, 11, 12, 13, 14, 15, 16, 17, 18, 19, 20, 21, 22, 23, 24, 25, 26, 27, 28, 29, 30, 31, 32, 33, 34, 35, 36, 37, 38, 39, 40, 41, 42, 43, 44, 45, 46], [0, 1, 2, 3, 4, 5, 6, 7, 8, 9, 10, 11, 12, 13, 14, 15, 16, 17, 18, 19, 20, 21, 22, 23, 24, 25, 26, 27, 28, 29, 30, 31, 32, 33, 34, 35, 36, 37, 38, 39, 40, 41, 42], [0, 1, 2, 3, 4, 5, 6, 7, 8, 9, 10, 11, 12, 13, 14, 15, 16, 17, 18, 19, 20, 21, 22, 23, 24, 25, 26, 27, 28, 29, 30, 31, 32, 33, 34, 35, 36, 37, 38, 39, 40, 41, 42, 48], [0, 1, 2, 3, 4, 5, 6, 7, 8, 9, 10, 11, 12, 13, 14, 15, 16, 17, 18, 19, 20, 21, 22, 23, 24, 25, 26, 27, 28, 29, 30, 31, 32, 33, 34, 35, 36, 37, 38, 39, 40, 41, 42], [0, 1, 2, 3, 4, 5, 6, 7, 8, 9, 10, 11, 12, 13, 14, 15, 16, 17, 18, 19, 20, 21, 22, 23, 24, 25, 26, 27, 28, 29, 30, 31, 32, 33, 34, 35, 36, 37, 38, 39, 40, 41, 42, 48, 49, 50], [0, 1, 2, 3, 4, 5, 6, 7, 8, 9, 10, 11, 12, 13, 14, 15, 16, 17, 18, 19, 20, 21, 22, 23, 24, 25, 26, 27, 28, 29, 30, 31, 32, 33, 34, 35, 36, 37, 38, 39, 40, 41, 42, 48, 49, 50, 51], [0, 1, 2, 3, 4, 5, 6, 7, 8, 9, 10, 11, 12, 13, 14, 15, 16, 17, 18, 19, 20, 21, 22, 23, 24, 25, 26, 27, 28, 29, 30, 31, 32, 33, 34, 35, 36, 37, 38, 39, 40, 41, 42, 48, 49, 50, 51, 52], [0, 1, 2, 3, 4, 5, 6, 7, 8, 9, 10, 11, 12, 13, 14, 15, 16, 17, 18, 19, 20, 21, 22, 23, 24, 25, 26, 27, 28, 29, 30, 31, 32, 33, 34, 35, 36, 37, 38, 39, 40, 41, 42, 43, 44, 45, 46, 47, 48, 49, 50, 51, 52, 53], [0, 1, 2, 3, 4, 5, 6, 7, 8, 9, 10, 11, 12, 13, 14, 15, 16, 17, 18, 19, 20, 21, 22, 23, 24, 25, 26, 27, 28, 29, 30, 31, 32, 33, 34, 35, 36, 37, 38, 39, 40, 41, 42, 43, 44, 45, 46, 47, 48, 49, 50, 51, 52, 53, 54]] [1, 5, 20, 198]) (.cond (.tmp 198) [] (.seq (.reg A9r45 [2]) .ret) [1, 5, 20] .skip))
abbrev A9r47 : List AIns := [⟨(some 141), (.mv (.tmp 20)), none⟩, ⟨(some 142), (.bin .add (.tmp 141) (.cst (.int .i64 1))), none⟩, ⟨(some 20), (.mv (.tmp 142)), none⟩]
abbrev A9l42 : ACode := (.seq (.seq (.reg A9r43 [1, 5, 20, 140]) (.cond (.tmp 140) [1, 5, 20] .skip [] (.exit 10))) (.seq (.block 11 A9c46) (.reg A9r47 [1, 5, 20])))
abbrev A9r48 : List AIns := [⟨(some 199), (.call (.fnc 15) []), none⟩, ⟨(some 2), (.mv (.tmp 199)), none⟩]
def A9 : AFun := ⟨200, 1, [(.tmp 2)], (.seq (.reg A9r1 [1]) (.seq (.seq (.reg A9r2 [1, 23]) (.cond (.tmp 23) [] (.seq (.reg A9r3 [2]) .ret) [1] .skip)) (.seq (.reg A9r4 [1, 3]) (.seq (.seq (.reg A9r5 [1, 3, 4]) (.block 0 (.loop A9l6))) (.seq (.reg A9r10 [1, 3, 5]) (.seq (.seq (.reg A9r11 [1, 3, 5, 6]) (.block 2 (.loop A9l12))) (.seq (.reg A9r19 [1, 3, 5, 8]) (.seq (.reg A9r20 [1, 3, 5, 8, 10]) (.seq (.reg A9r21 [1, 3, 5, 8, 10, 12]) (.seq (.reg A9r22 [1, 3, 5, 8, 10, 12, 14]) (.seq (.reg A9r23 [1, 3, 5, 16]) (.seq (.seq (.reg A9r24 [1, 3, 5, 16, 17]) (.block 4 (.loop A9l25))) (.seq (.seq (.reg A9r39 [1, 5, 136]) (.cond (.tmp 136) [] (.seq (.reg A9r40 [2]) .ret) [1, 5] .skip)) (.seq (.seq (.reg A9r41 [1, 5, 20]) (.block 10 (.loop A9l42))) (.seq (.reg A9r48 [2]) .ret)))))))))))))))⟩
theorem A9c : compF Try.prog Try.f9 = some A9 := by kernel_rfl
theorem A9k : Callable Try.prog 9 := fun a w => Try.call9 a w
theorem A9p {ds : List D} {r : D} (hl : ds.length ≤ A9.nt) (hw : W Try.prog A9.code (Fin A9.results r) ⟨argEnv 0 ds, fun _ => none⟩) : PCon Try.prog 9 ds r := pcon_of_W mixed Try.func9 A9k A9c hl hw
/- estovers/estoverslaw11.DurableAllows -/
/- estovers/estoverslaw11.DurableExact -/
/- estovers/estoverstop.TopCrashExact -/
/- estovers/estoverstop.TopCrashAllowed -/
/- estovers/estoverslaw11.few -/
/- estovers/estoverslaw11.awake -/
abbrev A15r1 : List AIns := [⟨(some 0), (.mv (.cst (.bool false))), none⟩]
abbrev A15r2 : List AIns := [⟨(some 11), (.call (.fnc 38) [(.cst (.int .u8 65))]), none⟩, ⟨(some 12), (.call (.fnc 38) [(.cst (.int .u8 66))]), none⟩, ⟨(some 13), (.buildS 1 [.nil] 2 [(0, (1, (.tmp 11))), (1, (1, (.tmp 12)))]), none⟩, ⟨(some 1), (.mv (.tmp 13)), none⟩]
abbrev A15r3 : List AIns := [⟨(some 14), (.call (.fnc 38) [(.cst (.int .u8 67))]), none⟩, ⟨(some 15), (.build [(.int .i64 0), (.int .i64 0), (.int .i64 0), .nil] [(0, (1, (.cst (.int .i64 1)))), (1, (1, (.cst (.int .i64 1)))), (2, (1, (.cst (.int .i64 0)))), (3, (1, (.tmp 14)))]), none⟩, ⟨(some 16), (.build [(.int .i64 0), (.int .i64 0), (.int .i64 0), .nil] [(0, (1, (.cst (.int .i64 2)))), (1, (1, (.cst (.int .i64 1))))]), none⟩, ⟨(some 17), (.call (.fnc 38) [(.cst (.int .u8 68))]), none⟩, ⟨(some 18), (.build [(.int .i64 0), (.int .i64 0), (.int .i64 0), .nil] [(0, (1, (.cst (.int .i64 1)))), (1, (1, (.cst (.int .i64 2)))), (2, (1, (.cst (.int .i64 0)))), (3, (1, (.tmp 17)))]), none⟩, ⟨(some 19), (.buildS 4 [(.int .i64 0), (.int .i64 0), (.int .i64 0), .nil] 3 [(0, (4, (.tmp 15))), (4, (4, (.tmp 16))), (8, (4, (.tmp 18)))]), none⟩, ⟨(some 2), (.mv (.tmp 19)), none⟩]
abbrev A15r4 : List AIns := [⟨(some 21), (.mv (.tmp 1)), none⟩, ⟨(some 22), (.mv (.tmp 2)), none⟩, ⟨(some 23), (.call (.fnc 23) [(.tmp 21), (.tmp 22), (.cst (.int .i64 0))]), none⟩, ⟨(some 20), (.mv (.tmp 23)), none⟩, ⟨(some 24), (.extract 0 (.tmp 20)), none⟩, ⟨(some 25), (.extract 1 (.tmp 20)), none⟩, ⟨(some 3), (.mv (.tmp 24)), none⟩, ⟨(some 4), (.mv (.tmp 25)), none⟩]
abbrev A15r5 : List AIns := [⟨(some 27), (.mv (.tmp 1)), none⟩, ⟨(some 28), (.mv (.tmp 2)), none⟩, ⟨(some 29), (.call (.fnc 25) [(.tmp 27), (.tmp 28)]), none⟩, ⟨(some 26), (.mv (.tmp 29)), none⟩, ⟨(some 30), (.extract 0 (.tmp 26)), none⟩, ⟨(some 31), (.extract 1 (.tmp 26)), none⟩, ⟨(some 5), (.mv (.tmp 30)), none⟩, ⟨(some 6), (.mv (.tmp 31)), none⟩]
abbrev A15r6 : List AIns := [⟨(some 33), (.mv (.tmp 1)), none⟩, ⟨(some 34), (.mv (.tmp 2)), none⟩, ⟨(some 35), (.slice 4 (.tmp 34) none (some (.cst (.int .i64 1)))), none⟩, ⟨(some 36), (.call (.fnc 18) [(.tmp 33), (.tmp 35)]), none⟩, ⟨(some 32), (.mv (.tmp 36)), none⟩, ⟨(some 37), (.extract 0 (.tmp 32)), none⟩, ⟨(some 38), (.extract 1 (.tmp 32)), none⟩, ⟨(some 7), (.mv (.tmp 37)), none⟩, ⟨(some 8), (.mv (.tmp 38)), none⟩]
abbrev A15d7 : List AIns := [⟨(some 40), (.mv (.tmp 1)), none⟩, ⟨(some 41), (.mv (.tmp 2)), none⟩, ⟨(some 42), (.iaddr 4 (.tmp 41) (.cst (.int .i64 0))), none⟩, ⟨(some 43), (.load true 4 (.tmp 42)), none⟩, ⟨(some 44), (.mv (.tmp 2)), none⟩, ⟨(some 45), (.iaddr 4 (.tmp 44) (.cst (.int .i64 1))), none⟩, ⟨(some 46), (.load true 4 (.tmp 45)), none⟩, ⟨(some 47), (.build [(.int .i64 0), (.int .i64 0), (.int .i64 0), .nil] [(0, (1, (.cst (.int .i64 3))))]), none⟩, ⟨(some 48), (.mv (.tmp 2)), none⟩, ⟨(some 49), (.iaddr 4 (.tmp 48) (.cst (.int .i64 2))), none⟩, ⟨(some 50), (.load true 4 (.tmp 49)), none⟩, ⟨(some 51), (.buildS 4 [(.int .i64 0), (.int .i64 0), (.int .i64 0), .nil] 4 [(0, (4, (.tmp 43))), (4, (4, (.tmp 46))), (8, (4, (.tmp 47))), (12, (4, (.tmp 50)))]), none⟩, ⟨(some 52), (.call (.fnc 21) [(.tmp 40), (.tmp 51), (.cst (.int .i64 1)), (.cst (.int .i64 2))]), none⟩, ⟨(some 39), (.mv (.tmp 52)), none⟩, ⟨(some 53), (.extract 0 (.tmp 39)), none⟩, ⟨(some 54), (.extract 1 (.tmp 39)), none⟩, ⟨(some 9), (.mv (.tmp 53)), none⟩, ⟨(some 10), (.mv (.tmp 54)), none⟩]
abbrev A15d7a : List AIns := [⟨(some 40), (.mv (.tmp 1)), none⟩, ⟨(some 41), (.mv (.tmp 2)), none⟩, ⟨(some 42), (.iaddr 4 (.tmp 41) (.cst (.int .i64 0))), none⟩, ⟨(some 43), (.load true 4 (.tmp 42)), none⟩, ⟨(some 44), (.mv (.tmp 2)), none⟩, ⟨(some 45), (.iaddr 4 (.tmp 44) (.cst (.int .i64 1))), none⟩, ⟨(some 46), (.load true 4 (.tmp 45)), none⟩, ⟨(some 47), (.build [(.int .i64 0), (.int .i64 0), (.int .i64 0), .nil] [(0, (1, (.cst (.int .i64 3))))]), none⟩, ⟨(some 48), (.mv (.tmp 2)), none⟩, ⟨(some 49), (.iaddr 4 (.tmp 48) (.cst (.int .i64 2))), none⟩, ⟨(some 50), (.load true 4 (.tmp 49)), none⟩]
abbrev A15r8 : List AIns := [⟨(some 55), (.mv (.tmp 4)), none⟩, ⟨(some 56), (.bin .eql (.tmp 55) (.cst (.int .i64 0))), none⟩, ⟨(some 57), (.mv (.tmp 56)), none⟩, ⟨(some 58), (.mv (.tmp 6)), (some (57, true))⟩, ⟨(some 59), (.bin .eql (.tmp 58) (.cst (.int .i64 0))), (some (57, true))⟩, ⟨(some 60), (.pick (.tmp 57) (.tmp 59) (.cst (.bool false))), none⟩, ⟨(some 61), (.mv (.tmp 60)), none⟩, ⟨(some 62), (.mv (.tmp 8)), (some (61, true))⟩, ⟨(some 63), (.bin .eql (.tmp 62) (.cst (.int .i64 0))), (some (61, true))⟩, ⟨(some 64), (.pick (.tmp 61) (.tmp 63) (.cst (.bool false))), none⟩, ⟨(some 65), (.mv (.tmp 64)), none⟩, ⟨(some 66), (.mv (.tmp 10)), (some (65, true))⟩, ⟨(some 67), (.bin .eql (.tmp 66) (.cst (.int .i64 0))), (some (65, true))⟩, ⟨(some 68), (.pick (.tmp 65) (.tmp 67) (.cst (.bool false))), none⟩, ⟨(some 69), (.mv (.tmp 68)), none⟩, ⟨(some 70), (.mv (.tmp 9)), (some (69, true))⟩, ⟨(some 71), (.pick (.tmp 69) (.tmp 70) (.cst (.bool false))), none⟩, ⟨(some 72), (.mv (.tmp 71)), none⟩, ⟨(some 73), (.mv (.tmp 7)), (some (72, true))⟩, ⟨(some 74), (.len (.tmp 73)), (some (72, true))⟩, ⟨(some 75), (.bin .eql (.tmp 74) (.cst (.int .i64 2))), (some (72, true))⟩, ⟨(some 76), (.pick (.tmp 72) (.tmp 75) (.cst (.bool false))), none⟩, ⟨(some 77), (.mv (.tmp 76)), none⟩, ⟨(some 78), (.mv (.tmp 3)), (some (77, true))⟩, ⟨(some 79), (.call (.fnc 38) [(.cst (.int .u8 65))]), (some (77, true))⟩, ⟨(some 80), (.call (.fnc 38) [(.cst (.int .u8 67))]), (some (77, true))⟩, ⟨(some 81), (.call (.fnc 38) [(.cst (.int .u8 68))]), (some (77, true))⟩, ⟨(some 82), (.buildS 1 [.nil] 3 [(0, (1, (.tmp 79))), (1, (1, (.tmp 80))), (2, (1, (.tmp 81)))]), (some (77, true))⟩, ⟨(some 83), (.call (.fnc 20) [(.tmp 78), (.tmp 82)]), (some (77, true))⟩, ⟨(some 84), (.pick (.tmp 77) (.tmp 83) (.cst (.bool false))), none⟩, ⟨(some 85), (.mv (.tmp 84)), none⟩, ⟨(some 86), (.mv (.tmp 5)), (some (85, true))⟩, ⟨(some 87), (.call (.fnc 38) [(.cst (.int .u8 67))]), (some (85, true))⟩, ⟨(some 88), (.call (.fnc 38) [(.cst (.int .u8 66))]), (some (85, true))⟩, ⟨(some 89), (.buildS 1 [.nil] 2 [(0, (1, (.tmp 87))), (1, (1, (.tmp 88)))]), (some (85, true))⟩, ⟨(some 90), (.call (.fnc 20) [(.tmp 86), (.tmp 89)]), (some (85, true))⟩, ⟨(some 91), (.pick (.tmp 85) (.tmp 90) (.cst (.bool false))), none⟩, ⟨(some 92), (.mv (.tmp 91)), none⟩, ⟨(some 93), (.mv (.tmp 1)), (some (92, true))⟩, ⟨(some 94), (.mv (.tmp 2)), (some (92, true))⟩, ⟨(some 95), (.slice 4 (.tmp 94) (some (.cst (.int .i64 1))) none), (some (92, true))⟩, ⟨(some 96), (.call (.fnc 16) [(.tmp 93), (.tmp 95)]), (some (92, true))⟩, ⟨(some 97), (.bin .eql (.tmp 96) (.cst (.int .i64 6))), (some (92, true))⟩, ⟨(some 98), (.pick (.tmp 92) (.tmp 97) (.cst (.bool false))), none⟩, ⟨(some 0), (.mv (.tmp 98)), none⟩]
def A15 : AFun := ⟨99, 0, [(.tmp 0)], (.seq (.reg A15r1 []) (.seq (.reg A15r2 [1]) (.seq (.reg A15r3 [1, 2]) (.seq (.reg A15r4 [1, 2, 3, 4]) (.seq (.reg A15r5 [1, 2, 3, 4, 5, 6]) (.seq (.reg A15r6 [1, 2, 3, 4, 5, 6, 7, 8]) (.seq (.dreg A15d7 [[], [], [1], [1, 2], [], [4], [4, 5], [], [], [8], [8, 9], [1, 2, 3, 4, 5, 6, 7, 8, 9, 10], [0, 1, 2, 3, 4, 5, 6, 7, 8, 9, 10, 11], [0, 1, 2, 3, 4, 5, 6, 7, 8, 9, 10, 11, 12], [0, 1, 2, 3, 4, 5, 6, 7, 8, 9, 10, 11, 12, 13], [0, 1, 2, 3, 4, 5, 6, 7, 8, 9, 10, 11, 12, 13], [0, 1, 2, 3, 4, 5, 6, 7, 8, 9, 10, 11, 12, 13, 14], [0, 1, 2, 3, 4, 5, 6, 7, 8, 9, 10, 11, 12, 13, 14, 15, 16]] [1, 2, 3, 4, 5, 6, 7, 8, 9, 10]) (.seq (.reg A15r8 [0]) .ret))))))))⟩
theorem A15c : compF Try.prog Try.f15 = some A15 := by kernel_rfl
theorem A15k : Callable Try.prog 15 := fun a w => Try.call15 a w
theorem A15p {ds : List D} {r : D} (hl : ds.length ≤ A15.nt) (hw : W Try.prog A15.code (Fin A15.results r) ⟨argEnv 0 ds, fun _ => none⟩) : PCon Try.prog 15 ds r := pcon_of_W mixed Try.func15 A15k A15c hl hw
/- estovers/durable.Check -/
abbrev A16r1 : List AIns := [⟨(some 4), (.mv (.cst (.int .i64 0))), none⟩]
abbrev A16r2 : List AIns := [⟨(some 8), (.mv (.tmp 0)), none⟩, ⟨(some 9), (.mv (.tmp 1)), none⟩, ⟨(some 10), (.call (.fnc 39) [(.tmp 8), (.tmp 9)]), none⟩, ⟨(some 7), (.mv (.tmp 10)), none⟩, ⟨(some 11), (.extract 0 (.tmp 7)), none⟩, ⟨(some 12), (.extract 1 (.tmp 7)), none⟩, ⟨(some 5), (.mv (.tmp 11)), none⟩, ⟨(some 6), (.mv (.tmp 12)), none⟩]
abbrev A16r3 : List AIns := [⟨(some 13), (.mv (.tmp 6)), none⟩, ⟨(some 4), (.mv (.tmp 13)), none⟩]
def A16 : AFun := ⟨14, 2, [(.tmp 4)], (.seq (.reg A16r1 [0, 1]) (.seq (.reg A16r2 [6]) (.seq (.reg A16r3 [4]) .ret)))⟩
theorem A16c : compF Try.prog Try.f16 = some A16 := by kernel_rfl
theorem A16k : Callable Try.prog 16 := fun a w => Try.call16 a w
theorem A16p {ds : List D} {r : D} (hl : ds.length ≤ A16.nt) (hw : W Try.prog A16.code (Fin A16.results r) ⟨argEnv 0 ds, fun _ => none⟩) : PCon Try.prog 16 ds r := pcon_of_W mixed Try.func16 A16k A16c hl hw
/- estovers/estoversref11.Check -/
/- estovers/durable.Images -/
abbrev A18r1 : List AIns := [⟨(some 4), (.mv (.cst .nil)), none⟩, ⟨(some 5), (.mv (.cst (.int .i64 0))), none⟩]
abbrev A18r2 : List AIns := [⟨(some 15), (.mv (.tmp 0)), none⟩, ⟨(some 16), (.mv (.tmp 1)), none⟩, ⟨(some 17), (.call (.fnc 39) [(.tmp 15), (.tmp 16)]), none⟩, ⟨(some 14), (.mv (.tmp 17)), none⟩, ⟨(some 18), (.extract 0 (.tmp 14)), none⟩, ⟨(some 19), (.extract 1 (.tmp 14)), none⟩, ⟨(some 6), (.mv (.tmp 18)), none⟩, ⟨(some 7), (.mv (.tmp 19)), none⟩]
abbrev A18r3 : List AIns := [⟨(some 20), (.mv (.tmp 7)), none⟩, ⟨(some 21), (.bin .neq (.tmp 20) (.cst (.int .i64 0))), none⟩]
abbrev A18r4 : List AIns := [⟨(some 22), (.mv (.tmp 7)), none⟩, ⟨(some 4), (.mv (.cst .nil)), none⟩, ⟨(some 5), (.mv (.tmp 22)), none⟩]
abbrev A18r5 : List AIns := [⟨(some 23), (.mv (.tmp 0)), none⟩, ⟨(some 24), (.len (.tmp 23)), none⟩, ⟨(some 25), (.mkslice 1 24 [.nil] (.tmp 24) (.tmp 24)), none⟩, ⟨(some 8), (.alloc [.nil]), none⟩, ⟨none, (.store 1 (.tmp 8) (.tmp 25)), none⟩, ⟨(some 9), (.mv (.cst (.int .i64 1))), none⟩]
abbrev A18r6 : List AIns := [⟨(some 26), (.mv (.tmp 0)), none⟩, ⟨(some 27), (.len (.tmp 26)), none⟩, ⟨(some 28), (.mv (.cst (.int .i64 0))), none⟩]
abbrev A18r8 : List AIns := [⟨(some 29), (.bin .lss (.tmp 28) (.tmp 27)), none⟩]
abbrev A18r9 : List AIns := [⟨(some 30), (.mv (.tmp 28)), none⟩, ⟨(some 10), (.mv (.tmp 30)), none⟩]
abbrev A18d10 : List AIns := [⟨(some 31), (.load false 1 (.tmp 8)), none⟩, ⟨(some 32), (.mv (.tmp 10)), none⟩, ⟨(some 33), (.mv (.tmp 6)), none⟩, ⟨(some 34), (.mv (.tmp 10)), none⟩, ⟨(some 35), (.call (.fnc 41) [(.tmp 33), (.tmp 34)]), none⟩, ⟨(some 36), (.iaddr 1 (.tmp 31) (.tmp 32)), none⟩, ⟨none, (.store 1 (.tmp 36) (.tmp 35)), none⟩]
abbrev A18d10p : List AIns := [⟨(some 31), (.load false 1 (.tmp 8)), none⟩, ⟨(some 32), (.mv (.tmp 10)), none⟩, ⟨(some 33), (.mv (.tmp 6)), none⟩, ⟨(some 34), (.mv (.tmp 10)), none⟩, ⟨(some 35), (.call (.fnc 41) [(.tmp 33), (.tmp 34)]), none⟩, ⟨(some 36), (.iaddr 1 (.tmp 31) (.tmp 32)), none⟩]
abbrev A18r11 : List AIns := [⟨(some 37), (.mv (.tmp 9)), none⟩, ⟨(some 38), (.load false 1 (.tmp 8)), none⟩, ⟨(some 39), (.mv (.tmp 10)), none⟩, ⟨(some 40), (.iaddr 1 (.tmp 38) (.tmp 39)), none⟩, ⟨(some 41), (.load false 1 (.tmp 40)), none⟩, ⟨(some 42), (.len (.tmp 41)), none⟩, ⟨(some 43), (.bin .mul (.tmp 37) (.tmp 42)), none⟩, ⟨(some 9), (.mv (.tmp 43)), none⟩]
abbrev A18r12 : List AIns := [⟨(some 44), (.mv (.tmp 9)), none⟩, ⟨(some 45), (.bin .gtr (.tmp 44) (.cst (.int .i64 64))), none⟩]
abbrev A18r13 : List AIns := [⟨(some 4), (.mv (.cst .nil)), none⟩, ⟨(some 5), (.mv (.cst (.int .i64 9))), none⟩]
abbrev A18c14 : ACode := (.seq (.reg A18r9 [6, 8, 9, 10, 27, 28]) (.seq (.dreg A18d10 [[], [], [], [], [2, 3], [0, 1, 2, 3, 4], [0, 1, 2, 3, 4, 5]] [6, 8, 9, 10, 27, 28]) (.seq (.reg A18r11 [6, 8, 9, 27, 28]) (.seq (.reg A18r12 [6, 8, 9, 27, 28, 45]) (.cond (.tmp 45) [] (.seq (.reg A18r13 [4, 5]) .ret) [6, 8, 9, 27, 28] .skip)))))
abbrev A18r15 : List AIns := [⟨(some 46), (.bin .add (.tmp 28) (.cst (.int .i64 1))), none⟩, ⟨(some 28), (.mv (.tmp 46)), none⟩]
abbrev A18l7 : ACode := (.seq (.reg A18r8 [6, 8, 9, 27, 28, 29]) (.seq (.cond (.tmp 29) [6, 8, 9, 27, 28] .skip [8] (.exit 0)) (.seq (.block 1 A18c14) (.reg A18r15 [6, 8, 9, 27, 28]))))
abbrev A18r16 : List AIns := [⟨(some 11), (.alloc [.nil]), none⟩]
abbrev A18r17 : List AIns := [⟨(some 12), (.alloc [.nil]), none⟩]
abbrev A18r18 : List AIns := [⟨(some 13), (.alloc [.nilf]), none⟩]
abbrev A18r19 : List AIns := [⟨(some 47), (.mkfn 42 [] [(.tmp 8), (.tmp 11), (.tmp 12), (.tmp 13)]), none⟩, ⟨none, (.store 1 (.tmp 13) (.tmp 47)), none⟩]
abbrev A18r20 : List AIns := [⟨(some 48), (.load false 1 (.tmp 13)), none⟩, ⟨(some 49), (.call (.tmp 48) [(.cst (.int .i64 0))]), none⟩]
abbrev A18r21 : List AIns := [⟨(some 50), (.load false 1 (.tmp 11)), none⟩, ⟨(some 4), (.mv (.tmp 50)), none⟩, ⟨(some 5), (.mv (.cst (.int .i64 0))), none⟩]
def A18 : AFun := ⟨51, 2, [(.tmp 4), (.tmp 5)], (.seq (.reg A18r1 [0, 1]) (.seq (.reg A18r2 [0, 6, 7]) (.seq (.seq (.reg A18r3 [0, 6, 7, 21]) (.cond (.tmp 21) [7] (.seq (.reg A18r4 [4, 5]) .ret) [0, 6] .skip)) (.seq (.reg A18r5 [0, 6, 8, 9]) (.seq (.seq (.reg A18r6 [6, 8, 9, 27, 28]) (.block 0 (.loop A18l7))) (.seq (.reg A18r16 [8, 11]) (.seq (.reg A18r17 [8, 11, 12]) (.seq (.reg A18r18 [8, 11, 12, 13]) (.seq (.reg A18r19 [11, 13]) (.seq (.reg A18r20 [11]) (.seq (.reg A18r21 [4, 5]) .ret)))))))))))⟩
theorem A18c : compF Try.prog Try.f18 = some A18 := by kernel_rfl
theorem A18k : Callable Try.prog 18 := fun a w => Try.call18 a w
theorem A18p {ds : List D} {r : D} (hl : ds.length ≤ A18.nt) (hw : W Try.prog A18.code (Fin A18.results r) ⟨argEnv 0 ds, fun _ => none⟩) : PCon Try.prog 18 ds r := pcon_of_W mixed Try.func18 A18k A18c hl hw
/- estovers/estoversref11.Images -/
/- estovers/estoversref11.Same -/
abbrev A20r1 : List AIns := [⟨(some 4), (.mv (.cst (.bool false))), none⟩]
abbrev A20r2 : List AIns := [⟨(some 6), (.mv (.tmp 0)), none⟩, ⟨(some 7), (.len (.tmp 6)), none⟩, ⟨(some 8), (.mv (.tmp 1)), none⟩, ⟨(some 9), (.len (.tmp 8)), none⟩, ⟨(some 10), (.bin .neq (.tmp 7) (.tmp 9)), none⟩]
abbrev A20r3 : List AIns := [⟨(some 4), (.mv (.cst (.bool false))), none⟩]
abbrev A20r4 : List AIns := [⟨(some 5), (.mv (.cst (.int .i64 0))), none⟩]
abbrev A20r6 : List AIns := [⟨(some 11), (.mv (.tmp 5)), none⟩, ⟨(some 12), (.mv (.tmp 0)), none⟩, ⟨(some 13), (.len (.tmp 12)), none⟩, ⟨(some 14), (.bin .lss (.tmp 11) (.tmp 13)), none⟩]
abbrev A20d7 : List AIns := [⟨(some 17), (.mv (.tmp 0)), none⟩, ⟨(some 18), (.mv (.tmp 5)), none⟩, ⟨(some 19), (.iaddr 1 (.tmp 17) (.tmp 18)), none⟩, ⟨(some 20), (.load false 1 (.tmp 19)), none⟩, ⟨(some 21), (.strB (.tmp 20)), none⟩, ⟨(some 22), (.mv (.tmp 1)), none⟩, ⟨(some 23), (.mv (.tmp 5)), none⟩, ⟨(some 24), (.iaddr 1 (.tmp 22) (.tmp 23)), none⟩, ⟨(some 25), (.load false 1 (.tmp 24)), none⟩, ⟨(some 26), (.strB (.tmp 25)), none⟩, ⟨(some 27), (.bin .neq (.tmp 21) (.tmp 26)), none⟩]
abbrev A20r8 : List AIns := [⟨(some 4), (.mv (.cst (.bool false))), none⟩]
abbrev A20c9 : ACode := (.seq (.dreg A20d7 [[], [], [0, 1], [0, 1, 2], [0, 1, 2, 3], [], [], [5, 6], [5, 6, 7], [5, 6, 7, 8], [0, 1, 2, 3, 4, 5, 6, 7, 8, 9]] [0, 1, 5, 27]) (.cond (.tmp 27) [] (.seq (.reg A20r8 [4]) .ret) [0, 1, 5] .skip))
abbrev A20r10 : List AIns := [⟨(some 15), (.mv (.tmp 5)), none⟩, ⟨(some 16), (.bin .add (.tmp 15) (.cst (.int .i64 1))), none⟩, ⟨(some 5), (.mv (.tmp 16)), none⟩]
abbrev A20l5 : ACode := (.seq (.seq (.reg A20r6 [0, 1, 5, 14]) (.cond (.tmp 14) [0, 1, 5] .skip [] (.exit 0))) (.seq (.block 1 A20c9) (.reg A20r10 [0, 1, 5])))
abbrev A20r11 : List AIns := [⟨(some 4), (.mv (.cst (.bool true))), none⟩]
def A20 : AFun := ⟨28, 2, [(.tmp 4)], (.seq (.reg A20r1 [0, 1]) (.seq (.seq (.reg A20r2 [0, 1, 10]) (.cond (.tmp 10) [] (.seq (.reg A20r3 [4]) .ret) [0, 1] .skip)) (.seq (.seq (.reg A20r4 [0, 1, 5]) (.block 0 (.loop A20l5))) (.seq (.reg A20r11 [4]) .ret))))⟩
theorem A20c : compF Try.prog Try.f20 = some A20 := by kernel_rfl
theorem A20k : Callable Try.prog 20 := fun a w => Try.call20 a w
theorem A20p {ds : List D} {r : D} (hl : ds.length ≤ A20.nt) (hw : W Try.prog A20.code (Fin A20.results r) ⟨argEnv 0 ds, fun _ => none⟩) : PCon Try.prog 20 ds r := pcon_of_W mixed Try.func20 A20k A20c hl hw
/- estovers/durable.Ordered -/
abbrev A21r1 : List AIns := [⟨(some 8), (.mv (.cst (.bool false))), none⟩, ⟨(some 9), (.mv (.cst (.int .i64 0))), none⟩]
abbrev A21r2 : List AIns := [⟨(some 17), (.mv (.tmp 0)), none⟩, ⟨(some 18), (.mv (.tmp 1)), none⟩, ⟨(some 19), (.call (.fnc 16) [(.tmp 17), (.tmp 18)]), none⟩, ⟨(some 10), (.mv (.tmp 19)), none⟩]
abbrev A21r3 : List AIns := [⟨(some 20), (.mv (.tmp 10)), none⟩, ⟨(some 21), (.bin .neq (.tmp 20) (.cst (.int .i64 0))), none⟩]
abbrev A21r4 : List AIns := [⟨(some 22), (.mv (.tmp 10)), none⟩, ⟨(some 8), (.mv (.cst (.bool false))), none⟩, ⟨(some 9), (.mv (.tmp 22)), none⟩]
abbrev A21r5 : List AIns := [⟨(some 23), (.build [(.bool false), (.bool false)] []), none⟩, ⟨(some 11), (.alloc [(.bool false), (.bool false)]), none⟩, ⟨none, (.store 2 (.tmp 11) (.tmp 23)), none⟩]
abbrev A21r6 : List AIns := [⟨(some 12), (.mv (.cst (.bool false))), none⟩, ⟨(some 13), (.mv (.cst (.bool false))), none⟩, ⟨(some 14), (.mv (.cst (.bool false))), none⟩]
abbrev A21r7 : List AIns := [⟨(some 24), (.mv (.tmp 1)), none⟩, ⟨(some 25), (.len (.tmp 24)), none⟩, ⟨(some 26), (.mv (.cst (.int .i64 0))), none⟩]
abbrev A21r9 : List AIns := [⟨(some 27), (.bin .lss (.tmp 26) (.tmp 25)), none⟩]
abbrev A21r10 : List AIns := [⟨(some 28), (.iaddr 4 (.tmp 24) (.tmp 26)), none⟩, ⟨(some 29), (.load true 4 (.tmp 28)), none⟩, ⟨(some 16), (.alloc [(.int .i64 0), (.int .i64 0), (.int .i64 0), .nil]), none⟩, ⟨none, (.store 4 (.tmp 16) (.tmp 29)), none⟩]
abbrev A21r11 : List AIns := [⟨(some 31), (.faddr 0 (.tmp 16)), none⟩, ⟨(some 32), (.load false 1 (.tmp 31)), none⟩, ⟨(some 33), (.bin .eql (.tmp 32) (.cst (.int .i64 1))), none⟩, ⟨(some 30), (.mv (.tmp 33)), none⟩]
abbrev A21r12 : List AIns := [⟨(some 34), (.faddr 1 (.tmp 16)), none⟩, ⟨(some 35), (.load false 1 (.tmp 34)), none⟩, ⟨(some 36), (.mv (.tmp 3)), none⟩, ⟨(some 37), (.bin .eql (.tmp 35) (.tmp 36)), none⟩]
abbrev A21r13 : List AIns := [⟨(some 38), (.mv (.tmp 13)), none⟩, ⟨(some 14), (.mv (.tmp 38)), none⟩]
abbrev A21r14 : List AIns := [⟨(some 39), (.iaddrA 2 1 (.tmp 11) (.cst (.int .i64 1))), none⟩, ⟨none, (.store 1 (.tmp 39) (.cst (.bool true))), none⟩]
abbrev A21c15 : ACode := (.seq (.reg A21r13 [2, 3, 11, 12, 13, 14, 16, 24, 25, 26]) (.reg A21r14 [2, 3, 11, 12, 13, 14, 16, 24, 25, 26]))
abbrev A21r16 : List AIns := [⟨(some 40), (.faddr 1 (.tmp 16)), none⟩, ⟨(some 41), (.load false 1 (.tmp 40)), none⟩, ⟨(some 42), (.mv (.tmp 2)), none⟩, ⟨(some 43), (.bin .eql (.tmp 41) (.tmp 42)), none⟩]
abbrev A21r17 : List AIns := [⟨(some 44), (.iaddrA 2 1 (.tmp 11) (.cst (.int .i64 0))), none⟩, ⟨none, (.store 1 (.tmp 44) (.cst (.bool true))), none⟩]
abbrev A21c18 : ACode := (.seq (.seq (.reg A21r12 [2, 3, 11, 12, 13, 14, 16, 24, 25, 26, 37]) (.cond (.tmp 37) [2, 3, 11, 12, 13, 16, 24, 25, 26] A21c15 [2, 3, 11, 12, 13, 14, 16, 24, 25, 26] .skip)) (.seq (.reg A21r16 [2, 3, 11, 12, 13, 14, 24, 25, 26, 43]) (.cond (.tmp 43) [2, 3, 11, 12, 13, 14, 24, 25, 26] (.reg A21r17 [2, 3, 11, 12, 13, 14, 24, 25, 26]) [2, 3, 11, 12, 13, 14, 24, 25, 26] .skip)))
abbrev A21r19 : List AIns := [⟨(some 46), (.faddr 0 (.tmp 16)), none⟩, ⟨(some 47), (.load false 1 (.tmp 46)), none⟩, ⟨(some 48), (.bin .eql (.tmp 47) (.cst (.int .i64 2))), none⟩, ⟨(some 49), (.mv (.tmp 48)), none⟩, ⟨(some 50), (.faddr 1 (.tmp 16)), (some (49, true))⟩, ⟨(some 51), (.load false 1 (.tmp 50)), (some (49, true))⟩, ⟨(some 52), (.mv (.tmp 2)), (some (49, true))⟩, ⟨(some 53), (.bin .eql (.tmp 51) (.tmp 52)), (some (49, true))⟩, ⟨(some 54), (.pick (.tmp 49) (.tmp 53) (.cst (.bool false))), none⟩, ⟨(some 45), (.mv (.tmp 54)), none⟩]
abbrev A21r20 : List AIns := [⟨(some 12), (.mv (.cst (.bool true))), none⟩]
abbrev A21r21 : List AIns := [⟨(some 56), (.faddr 0 (.tmp 16)), none⟩, ⟨(some 57), (.load false 1 (.tmp 56)), none⟩, ⟨(some 58), (.bin .eql (.tmp 57) (.cst (.int .i64 3))), none⟩, ⟨(some 55), (.mv (.tmp 58)), none⟩]
abbrev A21r22 : List AIns := [⟨(some 59), (.mv (.tmp 13)), none⟩, ⟨(some 60), (.mv (.tmp 59)), none⟩, ⟨(some 61), (.mv (.tmp 12)), (some (60, false))⟩, ⟨(some 62), (.pick (.tmp 60) (.cst (.bool true)) (.tmp 61)), none⟩, ⟨(some 13), (.mv (.tmp 62)), none⟩]
abbrev A21c23 : ACode := (.seq (.reg A21r21 [2, 3, 11, 12, 13, 14, 24, 25, 26, 55]) (.cond (.tmp 55) [2, 3, 11, 12, 13, 14, 24, 25, 26] (.reg A21r22 [2, 3, 11, 12, 13, 14, 24, 25, 26]) [2, 3, 11, 12, 13, 14, 24, 25, 26] .skip))
abbrev A21c24 : ACode := (.seq (.reg A21r19 [2, 3, 11, 12, 13, 14, 16, 24, 25, 26, 45]) (.cond (.tmp 45) [2, 3, 11, 13, 14, 24, 25, 26] (.reg A21r20 [2, 3, 11, 12, 13, 14, 24, 25, 26]) [2, 3, 11, 12, 13, 14, 16, 24, 25, 26] A21c23))
abbrev A21c25 : ACode := (.seq (.reg A21r11 [2, 3, 11, 12, 13, 14, 16, 24, 25, 26, 30]) (.cond (.tmp 30) [2, 3, 11, 12, 13, 14, 16, 24, 25, 26] A21c18 [2, 3, 11, 12, 13, 14, 16, 24, 25, 26] A21c24))
abbrev A21c26 : ACode := (.seq (.reg A21r10 [2, 3, 11, 12, 13, 14, 16, 24, 25, 26]) (.block 2 A21c25))
abbrev A21r27 : List AIns := [⟨(some 63), (.bin .add (.tmp 26) (.cst (.int .i64 1))), none⟩, ⟨(some 26), (.mv (.tmp 63)), none⟩]
abbrev A21l8 : ACode := (.seq (.reg A21r9 [2, 3, 11, 12, 13, 14, 24, 25, 26, 27]) (.seq (.cond (.tmp 27) [2, 3, 11, 12, 13, 14, 24, 25, 26] .skip [11, 14] (.exit 0)) (.seq (.block 1 A21c26) (.reg A21r27 [2, 3, 11, 12, 13, 14, 24, 25, 26]))))
abbrev A21r28 : List AIns := [⟨(some 64), (.iaddrA 2 1 (.tmp 11) (.cst (.int .i64 0))), none⟩, ⟨(some 65), (.load false 1 (.tmp 64)), none⟩, ⟨(some 66), (.un .not (.tmp 65)), none⟩, ⟨(some 67), (.mv (.tmp 66)), none⟩, ⟨(some 68), (.iaddrA 2 1 (.tmp 11) (.cst (.int .i64 1))), (some (67, false))⟩, ⟨(some 69), (.load false 1 (.tmp 68)), (some (67, false))⟩, ⟨(some 70), (.un .not (.tmp 69)), (some (67, false))⟩, ⟨(some 71), (.pick (.tmp 67) (.cst (.bool true)) (.tmp 70)), none⟩]
abbrev A21r29 : List AIns := [⟨(some 8), (.mv (.cst (.bool false))), none⟩, ⟨(some 9), (.mv (.cst (.int .i64 6))), none⟩]
abbrev A21r30 : List AIns := [⟨(some 72), (.mv (.tmp 14)), none⟩, ⟨(some 8), (.mv (.tmp 72)), none⟩, ⟨(some 9), (.mv (.cst (.int .i64 0))), none⟩]
def A21 : AFun := ⟨73, 4, [(.tmp 8), (.tmp 9)], (.seq (.reg A21r1 [0, 1, 2, 3]) (.seq (.seq (.reg A21r2 [1, 2, 3, 10]) (.seq (.reg A21r3 [1, 2, 3, 10, 21]) (.cond (.tmp 21) [10] (.seq (.reg A21r4 [8, 9]) .ret) [1, 2, 3] .skip))) (.seq (.reg A21r5 [1, 2, 3, 11]) (.seq (.reg A21r6 [1, 2, 3, 11, 12, 13, 14]) (.seq (.seq (.reg A21r7 [2, 3, 11, 12, 13, 14, 24, 25, 26]) (.block 0 (.loop A21l8))) (.seq (.seq (.reg A21r28 [14, 71]) (.cond (.tmp 71) [] (.seq (.reg A21r29 [8, 9]) .ret) [14] .skip)) (.seq (.reg A21r30 [8, 9]) .ret)))))))⟩
theorem A21c : compF Try.prog Try.f21 = some A21 := by kernel_rfl
theorem A21k : Callable Try.prog 21 := fun a w => Try.call21 a w
theorem A21p {ds : List D} {r : D} (hl : ds.length ≤ A21.nt) (hw : W Try.prog A21.code (Fin A21.results r) ⟨argEnv 0 ds, fun _ => none⟩) : PCon Try.prog 21 ds r := pcon_of_W mixed Try.func21 A21k A21c hl hw
/- estovers/estoversref11.Ordered -/
/- estovers/durable.Choices -/
abbrev A23r1 : List AIns := [⟨(some 6), (.mv (.cst .nil)), none⟩, ⟨(some 7), (.mv (.cst (.int .i64 0))), none⟩]
abbrev A23r2 : List AIns := [⟨(some 11), (.mv (.tmp 0)), none⟩, ⟨(some 12), (.mv (.tmp 1)), none⟩, ⟨(some 13), (.call (.fnc 39) [(.tmp 11), (.tmp 12)]), none⟩, ⟨(some 10), (.mv (.tmp 13)), none⟩, ⟨(some 14), (.extract 0 (.tmp 10)), none⟩, ⟨(some 15), (.extract 1 (.tmp 10)), none⟩, ⟨(some 8), (.mv (.tmp 14)), none⟩, ⟨(some 9), (.mv (.tmp 15)), none⟩]
abbrev A23r3 : List AIns := [⟨(some 16), (.mv (.tmp 9)), none⟩, ⟨(some 17), (.bin .neq (.tmp 16) (.cst (.int .i64 0))), none⟩]
abbrev A23r4 : List AIns := [⟨(some 18), (.mv (.tmp 9)), none⟩, ⟨(some 6), (.mv (.cst .nil)), none⟩, ⟨(some 7), (.mv (.tmp 18)), none⟩]
abbrev A23r5 : List AIns := [⟨(some 19), (.mv (.tmp 2)), none⟩, ⟨(some 20), (.bin .lss (.tmp 19) (.cst (.int .i64 0))), none⟩, ⟨(some 21), (.mv (.tmp 20)), none⟩, ⟨(some 22), (.mv (.tmp 2)), (some (21, false))⟩, ⟨(some 23), (.mv (.tmp 0)), (some (21, false))⟩, ⟨(some 24), (.len (.tmp 23)), (some (21, false))⟩, ⟨(some 25), (.bin .geq (.tmp 22) (.tmp 24)), (some (21, false))⟩, ⟨(some 26), (.pick (.tmp 21) (.cst (.bool true)) (.tmp 25)), none⟩]
abbrev A23r6 : List AIns := [⟨(some 6), (.mv (.cst .nil)), none⟩, ⟨(some 7), (.mv (.cst (.int .i64 2))), none⟩]
abbrev A23r7 : List AIns := [⟨(some 27), (.mv (.tmp 8)), none⟩, ⟨(some 28), (.mv (.tmp 2)), none⟩, ⟨(some 29), (.call (.fnc 41) [(.tmp 27), (.tmp 28)]), none⟩, ⟨(some 30), (.call (.fnc 43) [(.tmp 29)]), none⟩, ⟨(some 6), (.mv (.tmp 30)), none⟩, ⟨(some 7), (.mv (.cst (.int .i64 0))), none⟩]
def A23 : AFun := ⟨31, 3, [(.tmp 6), (.tmp 7)], (.seq (.reg A23r1 [0, 1, 2]) (.seq (.reg A23r2 [0, 2, 8, 9]) (.seq (.seq (.reg A23r3 [0, 2, 8, 9, 17]) (.cond (.tmp 17) [9] (.seq (.reg A23r4 [6, 7]) .ret) [0, 2, 8] .skip)) (.seq (.seq (.reg A23r5 [2, 8, 26]) (.cond (.tmp 26) [] (.seq (.reg A23r6 [6, 7]) .ret) [2, 8] .skip)) (.seq (.reg A23r7 [6, 7]) .ret)))))⟩
theorem A23c : compF Try.prog Try.f23 = some A23 := by kernel_rfl
theorem A23k : Callable Try.prog 23 := fun a w => Try.call23 a w
theorem A23p {ds : List D} {r : D} (hl : ds.length ≤ A23.nt) (hw : W Try.prog A23.code (Fin A23.results r) ⟨argEnv 0 ds, fun _ => none⟩) : PCon Try.prog 23 ds r := pcon_of_W mixed Try.func23 A23k A23c hl hw
/- estovers/estoverslaw11.settled -/
/- estovers/durable.Latest -/
abbrev A25r1 : List AIns := [⟨(some 4), (.mv (.cst .nil)), none⟩, ⟨(some 5), (.mv (.cst (.int .i64 0))), none⟩]
abbrev A25r2 : List AIns := [⟨(some 11), (.mv (.tmp 0)), none⟩, ⟨(some 12), (.mv (.tmp 1)), none⟩, ⟨(some 13), (.call (.fnc 39) [(.tmp 11), (.tmp 12)]), none⟩, ⟨(some 10), (.mv (.tmp 13)), none⟩, ⟨(some 14), (.extract 0 (.tmp 10)), none⟩, ⟨(some 15), (.extract 1 (.tmp 10)), none⟩, ⟨(some 6), (.mv (.tmp 14)), none⟩, ⟨(some 7), (.mv (.tmp 15)), none⟩]
abbrev A25r3 : List AIns := [⟨(some 16), (.mv (.tmp 7)), none⟩, ⟨(some 17), (.bin .neq (.tmp 16) (.cst (.int .i64 0))), none⟩]
abbrev A25r4 : List AIns := [⟨(some 18), (.mv (.tmp 7)), none⟩, ⟨(some 4), (.mv (.cst .nil)), none⟩, ⟨(some 5), (.mv (.tmp 18)), none⟩]
abbrev A25r5 : List AIns := [⟨(some 8), (.mv (.cst .nil)), none⟩]
abbrev A25r6 : List AIns := [⟨(some 19), (.mv (.tmp 0)), none⟩, ⟨(some 20), (.len (.tmp 19)), none⟩, ⟨(some 21), (.mv (.cst (.int .i64 0))), none⟩]
abbrev A25r8 : List AIns := [⟨(some 22), (.bin .lss (.tmp 21) (.tmp 20)), none⟩]
abbrev A25r9 : List AIns := [⟨(some 23), (.mv (.tmp 21)), none⟩, ⟨(some 9), (.mv (.tmp 23)), none⟩]
abbrev A25r10 : List AIns := [⟨(some 24), (.mv (.tmp 8)), none⟩, ⟨(some 25), (.mv (.tmp 6)), none⟩, ⟨(some 26), (.mv (.tmp 9)), none⟩, ⟨(some 27), (.call (.fnc 48) [(.tmp 25), (.tmp 26)]), none⟩, ⟨(some 28), (.buildS 1 [.nil] 1 [(0, (1, (.tmp 27)))]), none⟩, ⟨(some 29), (.append 1 24 (.tmp 24) (.tmp 28)), none⟩, ⟨(some 8), (.mv (.tmp 29)), none⟩]
abbrev A25c11 : ACode := (.seq (.reg A25r9 [6, 8, 9, 20, 21]) (.reg A25r10 [6, 8, 20, 21]))
abbrev A25r12 : List AIns := [⟨(some 30), (.bin .add (.tmp 21) (.cst (.int .i64 1))), none⟩, ⟨(some 21), (.mv (.tmp 30)), none⟩]
abbrev A25l7 : ACode := (.seq (.reg A25r8 [6, 8, 20, 21, 22]) (.seq (.cond (.tmp 22) [6, 8, 20, 21] .skip [8] (.exit 0)) (.seq (.block 1 A25c11) (.reg A25r12 [6, 8, 20, 21]))))
abbrev A25r13 : List AIns := [⟨(some 31), (.mv (.tmp 8)), none⟩, ⟨(some 32), (.call (.fnc 43) [(.tmp 31)]), none⟩, ⟨(some 4), (.mv (.tmp 32)), none⟩, ⟨(some 5), (.mv (.cst (.int .i64 0))), none⟩]
def A25 : AFun := ⟨33, 2, [(.tmp 4), (.tmp 5)], (.seq (.reg A25r1 [0, 1]) (.seq (.reg A25r2 [0, 6, 7]) (.seq (.seq (.reg A25r3 [0, 6, 7, 17]) (.cond (.tmp 17) [7] (.seq (.reg A25r4 [4, 5]) .ret) [0, 6] .skip)) (.seq (.reg A25r5 [0, 6, 8]) (.seq (.seq (.reg A25r6 [6, 8, 20, 21]) (.block 0 (.loop A25l7))) (.seq (.reg A25r13 [4, 5]) .ret))))))⟩
theorem A25c : compF Try.prog Try.f25 = some A25 := by kernel_rfl
theorem A25k : Callable Try.prog 25 := fun a w => Try.call25 a w
theorem A25p {ds : List D} {r : D} (hl : ds.length ≤ A25.nt) (hw : W Try.prog A25.code (Fin A25.results r) ⟨argEnv 0 ds, fun _ => none⟩) : PCon Try.prog 25 ds r := pcon_of_W mixed Try.func25 A25k A25c hl hw
/- estovers/durable.Durable -/
abbrev A26r1 : List AIns := [⟨(some 4), (.mv (.cst .nil)), none⟩, ⟨(some 5), (.mv (.cst (.int .i64 0))), none⟩]
abbrev A26r2 : List AIns := [⟨(some 9), (.mv (.tmp 0)), none⟩, ⟨(some 10), (.mv (.tmp 1)), none⟩, ⟨(some 11), (.call (.fnc 39) [(.tmp 9), (.tmp 10)]), none⟩, ⟨(some 8), (.mv (.tmp 11)), none⟩, ⟨(some 12), (.extract 0 (.tmp 8)), none⟩, ⟨(some 13), (.extract 1 (.tmp 8)), none⟩, ⟨(some 6), (.mv (.tmp 12)), none⟩, ⟨(some 7), (.mv (.tmp 13)), none⟩]
abbrev A26r3 : List AIns := [⟨(some 14), (.mv (.tmp 7)), none⟩, ⟨(some 15), (.bin .neq (.tmp 14) (.cst (.int .i64 0))), none⟩]
abbrev A26r4 : List AIns := [⟨(some 16), (.mv (.tmp 7)), none⟩, ⟨(some 4), (.mv (.cst .nil)), none⟩, ⟨(some 5), (.mv (.tmp 16)), none⟩]
abbrev A26r5 : List AIns := [⟨(some 17), (.mv (.tmp 6)), none⟩, ⟨(some 18), (.nilck (.tmp 17)), none⟩, ⟨(some 19), (.faddr 0 (.tmp 18)), none⟩, ⟨(some 20), (.load false 1 (.tmp 19)), none⟩, ⟨(some 21), (.call (.fnc 43) [(.tmp 20)]), none⟩, ⟨(some 4), (.mv (.tmp 21)), none⟩, ⟨(some 5), (.mv (.cst (.int .i64 0))), none⟩]
def A26 : AFun := ⟨22, 2, [(.tmp 4), (.tmp 5)], (.seq (.reg A26r1 [0, 1]) (.seq (.reg A26r2 [6, 7]) (.seq (.seq (.reg A26r3 [6, 7, 15]) (.cond (.tmp 15) [7] (.seq (.reg A26r4 [4, 5]) .ret) [6] .skip)) (.seq (.reg A26r5 [4, 5]) .ret))))⟩
theorem A26c : compF Try.prog Try.f26 = some A26 := by kernel_rfl
theorem A26k : Callable Try.prog 26 := fun a w => Try.call26 a w
/- estovers/estoversref11.Latest -/
/- estovers/estoversref11.Durable -/
/- estovers/estoversref11.Choices -/
/- estovers/estoversref11.Few -/
abbrev A30r1 : List AIns := [⟨(some 3), (.box (.tmp 0)), none⟩, ⟨(some 6), (.mv (.cst (.bool false))), none⟩]
abbrev A30r2 : List AIns := [⟨(some 9), (.faddr 0 (.tmp 3)), none⟩, ⟨(some 10), (.load false 1 (.tmp 9)), none⟩, ⟨(some 11), (.len (.tmp 10)), none⟩, ⟨(some 12), (.mv (.tmp 1)), none⟩, ⟨(some 13), (.bin .gtr (.tmp 11) (.tmp 12)), none⟩, ⟨(some 14), (.mv (.tmp 13)), none⟩, ⟨(some 15), (.faddr 1 (.tmp 3)), (some (14, false))⟩, ⟨(some 16), (.load false 1 (.tmp 15)), (some (14, false))⟩, ⟨(some 17), (.len (.tmp 16)), (some (14, false))⟩, ⟨(some 18), (.mv (.tmp 2)), (some (14, false))⟩, ⟨(some 19), (.bin .gtr (.tmp 17) (.tmp 18)), (some (14, false))⟩, ⟨(some 20), (.pick (.tmp 14) (.cst (.bool true)) (.tmp 19)), none⟩]
abbrev A30r3 : List AIns := [⟨(some 6), (.mv (.cst (.bool false))), none⟩]
abbrev A30r4 : List AIns := [⟨(some 7), (.mv (.cst (.int .i64 0))), none⟩]
abbrev A30r6 : List AIns := [⟨(some 21), (.mv (.tmp 7)), none⟩, ⟨(some 22), (.faddr 0 (.tmp 3)), none⟩, ⟨(some 23), (.load false 1 (.tmp 22)), none⟩, ⟨(some 24), (.len (.tmp 23)), none⟩, ⟨(some 25), (.bin .lss (.tmp 21) (.tmp 24)), none⟩]
abbrev A30r7 : List AIns := [⟨(some 28), (.faddr 0 (.tmp 3)), none⟩, ⟨(some 29), (.load false 1 (.tmp 28)), none⟩, ⟨(some 30), (.mv (.tmp 7)), none⟩, ⟨(some 31), (.iaddr 1 (.tmp 29) (.tmp 30)), none⟩, ⟨(some 32), (.load false 1 (.tmp 31)), none⟩, ⟨(some 33), (.len (.tmp 32)), none⟩, ⟨(some 34), (.bin .gtr (.tmp 33) (.cst (.int .i64 100))), none⟩]
abbrev A30r8 : List AIns := [⟨(some 6), (.mv (.cst (.bool false))), none⟩]
abbrev A30c9 : ACode := (.seq (.reg A30r7 [3, 7, 34]) (.cond (.tmp 34) [] (.seq (.reg A30r8 [6]) .ret) [3, 7] .skip))
abbrev A30r10 : List AIns := [⟨(some 26), (.mv (.tmp 7)), none⟩, ⟨(some 27), (.bin .add (.tmp 26) (.cst (.int .i64 1))), none⟩, ⟨(some 7), (.mv (.tmp 27)), none⟩]
abbrev A30l5 : ACode := (.seq (.seq (.reg A30r6 [3, 7, 25]) (.cond (.tmp 25) [3, 7] .skip [3] (.exit 0))) (.seq (.block 1 A30c9) (.reg A30r10 [3, 7])))
abbrev A30r11 : List AIns := [⟨(some 8), (.mv (.cst (.int .i64 0))), none⟩]
abbrev A30r13 : List AIns := [⟨(some 35), (.mv (.tmp 8)), none⟩, ⟨(some 36), (.faddr 1 (.tmp 3)), none⟩, ⟨(some 37), (.load false 1 (.tmp 36)), none⟩, ⟨(some 38), (.len (.tmp 37)), none⟩, ⟨(some 39), (.bin .lss (.tmp 35) (.tmp 38)), none⟩]
abbrev A30r14 : List AIns := [⟨(some 42), (.faddr 1 (.tmp 3)), none⟩, ⟨(some 43), (.load false 1 (.tmp 42)), none⟩, ⟨(some 44), (.mv (.tmp 8)), none⟩, ⟨(some 45), (.iaddr 4 (.tmp 43) (.tmp 44)), none⟩, ⟨(some 46), (.faddr 3 (.tmp 45)), none⟩, ⟨(some 47), (.load false 1 (.tmp 46)), none⟩, ⟨(some 48), (.len (.tmp 47)), none⟩, ⟨(some 49), (.bin .gtr (.tmp 48) (.cst (.int .i64 100))), none⟩]
abbrev A30r15 : List AIns := [⟨(some 6), (.mv (.cst (.bool false))), none⟩]
abbrev A30c16 : ACode := (.seq (.reg A30r14 [3, 8, 49]) (.cond (.tmp 49) [] (.seq (.reg A30r15 [6]) .ret) [3, 8] .skip))
abbrev A30r17 : List AIns := [⟨(some 40), (.mv (.tmp 8)), none⟩, ⟨(some 41), (.bin .add (.tmp 40) (.cst (.int .i64 1))), none⟩, ⟨(some 8), (.mv (.tmp 41)), none⟩]
abbrev A30l12 : ACode := (.seq (.seq (.reg A30r13 [3, 8, 39]) (.cond (.tmp 39) [3, 8] .skip [] (.exit 2))) (.seq (.block 3 A30c16) (.reg A30r17 [3, 8])))
abbrev A30r18 : List AIns := [⟨(some 6), (.mv (.cst (.bool true))), none⟩]
def A30 : AFun := ⟨50, 3, [(.tmp 6)], (.seq (.reg A30r1 [1, 2, 3]) (.seq (.seq (.reg A30r2 [3, 20]) (.cond (.tmp 20) [] (.seq (.reg A30r3 [6]) .ret) [3] .skip)) (.seq (.seq (.reg A30r4 [3, 7]) (.block 0 (.loop A30l5))) (.seq (.seq (.reg A30r11 [3, 8]) (.block 2 (.loop A30l12))) (.seq (.reg A30r18 [6]) .ret)))))⟩
theorem A30c : compF Try.prog Try.f30 = some A30 := by kernel_rfl
theorem A30k : Callable Try.prog 30 := fun a w => Try.call30 a w
theorem A30p {ds : List D} {r : D} (hl : ds.length ≤ A30.nt) (hw : W Try.prog A30.code (Fin A30.results r) ⟨argEnv 0 ds, fun _ => none⟩) : PCon Try.prog 30 ds r := pcon_of_W mixed Try.func30 A30k A30c hl hw
/- estovers/durable.Allows -/
/- estovers/estoversref11.Allows -/
/- estovers/estoverstop.dDriven -/
/- estovers/estoverstop.dDrive -/
/- estovers/device.Choices -/
/- estovers/device.Crash -/
/- estovers/device.Content -/
/- estovers/estoverslaw11.page -/
abbrev A38r1 : List AIns := [⟨(some 2), (.mv (.cst .nil)), none⟩]
abbrev A38r2 : List AIns := [⟨(some 3), (.mv (.cst .nil)), none⟩]
abbrev A38r3 : List AIns := [⟨(some 4), (.mv (.cst (.int .i64 0))), none⟩]
abbrev A38r5 : List AIns := [⟨(some 5), (.mv (.tmp 4)), none⟩, ⟨(some 6), (.bin .lss (.tmp 5) (.cst (.int .i64 32))), none⟩]
abbrev A38r6 : List AIns := [⟨(some 9), (.mv (.tmp 3)), none⟩, ⟨(some 10), (.mv (.tmp 0)), none⟩, ⟨(some 11), (.buildS 1 [(.int .u8 0)] 1 [(0, (1, (.tmp 10)))]), none⟩, ⟨(some 12), (.append 1 1 (.tmp 9) (.tmp 11)), none⟩, ⟨(some 3), (.mv (.tmp 12)), none⟩]
abbrev A38r7 : List AIns := [⟨(some 7), (.mv (.tmp 4)), none⟩, ⟨(some 8), (.bin .add (.tmp 7) (.cst (.int .i64 1))), none⟩, ⟨(some 4), (.mv (.tmp 8)), none⟩]
abbrev A38l4 : ACode := (.seq (.seq (.reg A38r5 [0, 3, 4, 6]) (.cond (.tmp 6) [0, 3, 4] .skip [3] (.exit 0))) (.seq (.block 1 (.reg A38r6 [0, 3, 4])) (.reg A38r7 [0, 3, 4])))
abbrev A38r8 : List AIns := [⟨(some 13), (.mv (.tmp 3)), none⟩, ⟨(some 2), (.mv (.tmp 13)), none⟩]
def A38 : AFun := ⟨14, 1, [(.tmp 2)], (.seq (.reg A38r1 [0]) (.seq (.reg A38r2 [0, 3]) (.seq (.seq (.reg A38r3 [0, 3, 4]) (.block 0 (.loop A38l4))) (.seq (.reg A38r8 [2]) .ret))))⟩
theorem A38c : compF Try.prog Try.f38 = some A38 := by kernel_rfl
theorem A38k : Callable Try.prog 38 := fun a w => Try.call38 a w
theorem A38p {ds : List D} {r : D} (hl : ds.length ≤ A38.nt) (hw : W Try.prog A38.code (Fin A38.results r) ⟨argEnv 0 ds, fun _ => none⟩) : PCon Try.prog 38 ds r := pcon_of_W mixed Try.func38 A38k A38c hl hw
/- estovers/durable.after -/
abbrev A39r1 : List AIns := [⟨(some 4), (.mv (.cst .nilp)), none⟩, ⟨(some 5), (.mv (.cst (.int .i64 0))), none⟩]
abbrev A39r2 : List AIns := [⟨(some 13), (.mv (.tmp 0)), none⟩, ⟨(some 14), (.len (.tmp 13)), none⟩, ⟨(some 15), (.mv (.cst (.int .i64 0))), none⟩]
abbrev A39r4 : List AIns := [⟨(some 16), (.bin .lss (.tmp 15) (.tmp 14)), none⟩]
abbrev A39r5 : List AIns := [⟨(some 17), (.iaddr 1 (.tmp 13) (.tmp 15)), none⟩, ⟨(some 18), (.load false 1 (.tmp 17)), none⟩, ⟨(some 7), (.mv (.tmp 18)), none⟩]
abbrev A39r6 : List AIns := [⟨(some 19), (.mv (.tmp 7)), none⟩, ⟨(some 20), (.len (.tmp 19)), none⟩, ⟨(some 21), (.bin .neq (.tmp 20) (.cst (.int .i64 32))), none⟩]
abbrev A39r7 : List AIns := [⟨(some 4), (.mv (.cst .nilp)), none⟩, ⟨(some 5), (.mv (.cst (.int .i64 3))), none⟩]
abbrev A39c8 : ACode := (.seq (.reg A39r5 [0, 1, 7, 13, 14, 15]) (.seq (.reg A39r6 [0, 1, 13, 14, 15, 21]) (.cond (.tmp 21) [] (.seq (.reg A39r7 [4, 5]) .ret) [0, 1, 13, 14, 15] .skip)))
abbrev A39r9 : List AIns := [⟨(some 22), (.bin .add (.tmp 15) (.cst (.int .i64 1))), none⟩, ⟨(some 15), (.mv (.tmp 22)), none⟩]
abbrev A39l3 : ACode := (.seq (.reg A39r4 [0, 1, 13, 14, 15, 16]) (.seq (.cond (.tmp 16) [0, 1, 13, 14, 15] .skip [0, 1] (.exit 0)) (.seq (.block 1 A39c8) (.reg A39r9 [0, 1, 13, 14, 15]))))
abbrev A39d10 : List AIns := [⟨(some 23), (.mv (.tmp 0)), none⟩, ⟨(some 24), (.call (.fnc 65) [(.tmp 23)]), none⟩, ⟨(some 25), (.mv (.tmp 0)), none⟩, ⟨(some 26), (.len (.tmp 25)), none⟩, ⟨(some 27), (.mkslice 1 24 [.nil] (.tmp 26) (.tmp 26)), none⟩, ⟨(some 28), (.build [.nil, .nil, .nil] [(0, (1, (.tmp 24))), (1, (1, (.tmp 27)))]), none⟩, ⟨(some 29), (.box (.tmp 28)), none⟩, ⟨(some 8), (.mv (.tmp 29)), none⟩]
abbrev A39d10x : List AIns := [⟨(some 23), (.mv (.tmp 0)), none⟩]
abbrev A39d10m : List AIns := [⟨(some 25), (.mv (.tmp 0)), none⟩, ⟨(some 26), (.len (.tmp 25)), none⟩]
abbrev A39d10s : List AIns := [⟨(some 27), (.mkslice 1 24 [.nil] (.tmp 26) (.tmp 26)), none⟩, ⟨(some 28), (.build [.nil, .nil, .nil] [(0, (1, (.tmp 24))), (1, (1, (.tmp 27)))]), none⟩, ⟨(some 29), (.box (.tmp 28)), none⟩, ⟨(some 8), (.mv (.tmp 29)), none⟩]
abbrev A39r11 : List AIns := [⟨(some 30), .mkmap, none⟩, ⟨(some 9), (.mv (.tmp 30)), none⟩]
abbrev A39r12 : List AIns := [⟨(some 31), (.mv (.tmp 1)), none⟩, ⟨(some 32), (.len (.tmp 31)), none⟩, ⟨(some 33), (.mv (.cst (.int .i64 0))), none⟩]
abbrev A39r14 : List AIns := [⟨(some 34), (.bin .lss (.tmp 33) (.tmp 32)), none⟩]
abbrev A39r15 : List AIns := [⟨(some 35), (.iaddr 4 (.tmp 31) (.tmp 33)), none⟩, ⟨(some 36), (.load true 4 (.tmp 35)), none⟩, ⟨(some 11), (.alloc [(.int .i64 0), (.int .i64 0), (.int .i64 0), .nil]), none⟩, ⟨none, (.store 4 (.tmp 11) (.tmp 36)), none⟩]
abbrev A39r16 : List AIns := [⟨(some 37), (.mv (.tmp 8)), none⟩, ⟨(some 38), (.load true 4 (.tmp 11)), none⟩, ⟨(some 39), (.mv (.tmp 9)), none⟩, ⟨(some 40), (.call (.fnc 66) [(.tmp 37), (.tmp 38), (.tmp 39)]), none⟩, ⟨(some 12), (.mv (.tmp 40)), none⟩]
abbrev A39r17 : List AIns := [⟨(some 41), (.mv (.tmp 12)), none⟩, ⟨(some 42), (.bin .neq (.tmp 41) (.cst (.int .i64 0))), none⟩]
abbrev A39r18 : List AIns := [⟨(some 43), (.mv (.tmp 12)), none⟩, ⟨(some 4), (.mv (.cst .nilp)), none⟩, ⟨(some 5), (.mv (.tmp 43)), none⟩]
abbrev A39r19 : List AIns := [⟨(some 44), (.faddr 0 (.tmp 11)), none⟩, ⟨(some 45), (.load false 1 (.tmp 44)), none⟩, ⟨(some 46), (.bin .eql (.tmp 45) (.cst (.int .i64 1))), none⟩]
abbrev A39r20 : List AIns := [⟨(some 47), (.mv (.tmp 9)), none⟩, ⟨(some 48), (.faddr 1 (.tmp 11)), none⟩, ⟨(some 49), (.load false 1 (.tmp 48)), none⟩, ⟨none, (.mapPut (.tmp 47) (.tmp 49) (.cst (.bool true))), none⟩]
abbrev A39r21 : List AIns := [⟨(some 50), (.mv (.tmp 8)), none⟩, ⟨(some 51), (.load true 4 (.tmp 11)), none⟩, ⟨(some 52), (.call (.fnc 67) [(.tmp 50), (.tmp 51)]), none⟩]
abbrev A39c22 : ACode := (.seq (.reg A39r15 [8, 9, 11, 31, 32, 33]) (.seq (.seq (.reg A39r16 [8, 9, 11, 12, 31, 32, 33]) (.seq (.reg A39r17 [8, 9, 11, 12, 31, 32, 33, 42]) (.cond (.tmp 42) [12] (.seq (.reg A39r18 [4, 5]) .ret) [8, 9, 11, 31, 32, 33] .skip))) (.seq (.seq (.reg A39r19 [8, 9, 11, 31, 32, 33, 46]) (.cond (.tmp 46) [8, 9, 11, 31, 32, 33] (.reg A39r20 [8, 9, 11, 31, 32, 33]) [8, 9, 11, 31, 32, 33] .skip)) (.reg A39r21 [8, 9, 31, 32, 33]))))
abbrev A39r23 : List AIns := [⟨(some 53), (.bin .add (.tmp 33) (.cst (.int .i64 1))), none⟩, ⟨(some 33), (.mv (.tmp 53)), none⟩]
abbrev A39l13 : ACode := (.seq (.reg A39r14 [8, 9, 31, 32, 33, 34]) (.seq (.cond (.tmp 34) [8, 9, 31, 32, 33] .skip [8] (.exit 2)) (.seq (.block 3 A39c22) (.reg A39r23 [8, 9, 31, 32, 33]))))
abbrev A39r24 : List AIns := [⟨(some 54), (.mv (.tmp 8)), none⟩, ⟨(some 4), (.mv (.tmp 54)), none⟩, ⟨(some 5), (.mv (.cst (.int .i64 0))), none⟩]
def A39 : AFun := ⟨55, 2, [(.tmp 4), (.tmp 5)], (.seq (.reg A39r1 [0, 1]) (.seq (.seq (.reg A39r2 [0, 1, 13, 14, 15]) (.block 0 (.loop A39l3))) (.seq (.dreg A39d10 [[], [0], [], [2], [2, 3], [0, 1, 2, 3, 4], [0, 1, 2, 3, 4, 5], [0, 1, 2, 3, 4, 5, 6]] [1, 8]) (.seq (.reg A39r11 [1, 8, 9]) (.seq (.seq (.reg A39r12 [8, 9, 31, 32, 33]) (.block 2 (.loop A39l13))) (.seq (.reg A39r24 [4, 5]) .ret))))))⟩
theorem A39c : compF Try.prog Try.f39 = some A39 := by kernel_rfl
theorem A39k : Callable Try.prog 39 := fun a w => Try.call39 a w
/- estovers/estoversref11.event -/
/- (*estovers/durable.state).choices -/
abbrev A41r1 : List AIns := [⟨(some 4), (.mv (.cst .nil)), none⟩]
abbrev A41d2 : List AIns := [⟨(some 11), (.mv (.tmp 0)), none⟩, ⟨(some 12), (.nilck (.tmp 11)), none⟩, ⟨(some 13), (.faddr 0 (.tmp 12)), none⟩, ⟨(some 14), (.load false 1 (.tmp 13)), none⟩, ⟨(some 15), (.mv (.tmp 1)), none⟩, ⟨(some 16), (.iaddr 1 (.tmp 14) (.tmp 15)), none⟩, ⟨(some 17), (.load false 1 (.tmp 16)), none⟩, ⟨(some 18), (.mv (.tmp 0)), none⟩, ⟨(some 19), (.mv (.tmp 1)), none⟩, ⟨(some 20), (.call (.fnc 48) [(.tmp 18), (.tmp 19)]), none⟩, ⟨(some 21), (.buildS 1 [.nil] 2 [(0, (1, (.tmp 17))), (1, (1, (.tmp 20)))]), none⟩, ⟨(some 5), (.mv (.tmp 21)), none⟩]
abbrev A41d2a : List AIns := [⟨(some 11), (.mv (.tmp 0)), none⟩, ⟨(some 12), (.nilck (.tmp 11)), none⟩, ⟨(some 13), (.faddr 0 (.tmp 12)), none⟩, ⟨(some 14), (.load false 1 (.tmp 13)), none⟩, ⟨(some 15), (.mv (.tmp 1)), none⟩, ⟨(some 16), (.iaddr 1 (.tmp 14) (.tmp 15)), none⟩, ⟨(some 17), (.load false 1 (.tmp 16)), none⟩, ⟨(some 18), (.mv (.tmp 0)), none⟩, ⟨(some 19), (.mv (.tmp 1)), none⟩, ⟨(some 20), (.call (.fnc 48) [(.tmp 18), (.tmp 19)]), none⟩]
abbrev A41d2b : List AIns := [⟨(some 21), (.buildS 1 [.nil] 2 [(0, (1, (.tmp 17))), (1, (1, (.tmp 20)))]), none⟩, ⟨(some 5), (.mv (.tmp 21)), none⟩]
abbrev A41r3 : List AIns := [⟨(some 22), (.mv (.tmp 0)), none⟩, ⟨(some 23), (.nilck (.tmp 22)), none⟩, ⟨(some 24), (.faddr 2 (.tmp 23)), none⟩, ⟨(some 25), (.load false 1 (.tmp 24)), none⟩, ⟨(some 26), (.len (.tmp 25)), none⟩, ⟨(some 27), (.mv (.cst (.int .i64 0))), none⟩]
abbrev A41r5 : List AIns := [⟨(some 28), (.bin .lss (.tmp 27) (.tmp 26)), none⟩]
abbrev A41r6 : List AIns := [⟨(some 29), (.iaddr 3 (.tmp 25) (.tmp 27)), none⟩, ⟨(some 30), (.load true 3 (.tmp 29)), none⟩, ⟨(some 7), (.alloc [(.int .i64 0), (.int .i64 0), .nil]), none⟩, ⟨none, (.store 3 (.tmp 7) (.tmp 30)), none⟩]
abbrev A41r7 : List AIns := [⟨(some 31), (.faddr 1 (.tmp 7)), none⟩, ⟨(some 32), (.load false 1 (.tmp 31)), none⟩, ⟨(some 33), (.mv (.tmp 1)), none⟩, ⟨(some 34), (.bin .eql (.tmp 32) (.tmp 33)), none⟩]
abbrev A41r8 : List AIns := [⟨(some 35), (.mv (.tmp 5)), none⟩, ⟨(some 36), (.faddr 2 (.tmp 7)), none⟩, ⟨(some 37), (.load false 1 (.tmp 36)), none⟩, ⟨(some 38), (.buildS 1 [.nil] 1 [(0, (1, (.tmp 37)))]), none⟩, ⟨(some 39), (.append 1 24 (.tmp 35) (.tmp 38)), none⟩, ⟨(some 5), (.mv (.tmp 39)), none⟩]
abbrev A41c9 : ACode := (.seq (.reg A41r6 [1, 5, 7, 25, 26, 27]) (.seq (.reg A41r7 [1, 5, 7, 25, 26, 27, 34]) (.cond (.tmp 34) [1, 5, 7, 25, 26, 27] (.reg A41r8 [1, 5, 25, 26, 27]) [1, 5, 25, 26, 27] .skip)))
abbrev A41r10 : List AIns := [⟨(some 40), (.bin .add (.tmp 27) (.cst (.int .i64 1))), none⟩, ⟨(some 27), (.mv (.tmp 40)), none⟩]
abbrev A41l4 : ACode := (.seq (.reg A41r5 [1, 5, 25, 26, 27, 28]) (.seq (.cond (.tmp 28) [1, 5, 25, 26, 27] .skip [5] (.exit 0)) (.seq (.block 1 A41c9) (.reg A41r10 [1, 5, 25, 26, 27]))))
abbrev A41r11 : List AIns := [⟨(some 8), (.mv (.cst .nil)), none⟩]
abbrev A41r12 : List AIns := [⟨(some 41), (.mv (.tmp 5)), none⟩, ⟨(some 42), (.len (.tmp 41)), none⟩, ⟨(some 43), (.mv (.cst (.int .i64 0))), none⟩]
abbrev A41r14 : List AIns := [⟨(some 44), (.bin .lss (.tmp 43) (.tmp 42)), none⟩]
abbrev A41r15 : List AIns := [⟨(some 45), (.iaddr 1 (.tmp 41) (.tmp 43)), none⟩, ⟨(some 46), (.load false 1 (.tmp 45)), none⟩, ⟨(some 10), (.alloc [.nil]), none⟩, ⟨none, (.store 1 (.tmp 10) (.tmp 46)), none⟩]
abbrev A41r16 : List AIns := [⟨(some 47), (.mv (.tmp 8)), none⟩, ⟨(some 48), (.mkfn 68 [] [(.tmp 10)]), none⟩, ⟨(some 49), (.call (.fnc 51) [(.tmp 47), (.tmp 48)]), none⟩, ⟨(some 50), (.un .not (.tmp 49)), none⟩]
abbrev A41r17 : List AIns := [⟨(some 51), (.mv (.tmp 8)), none⟩, ⟨(some 52), (.load false 1 (.tmp 10)), none⟩, ⟨(some 53), (.buildS 1 [.nil] 1 [(0, (1, (.tmp 52)))]), none⟩, ⟨(some 54), (.append 1 24 (.tmp 51) (.tmp 53)), none⟩, ⟨(some 8), (.mv (.tmp 54)), none⟩]
abbrev A41c18 : ACode := (.seq (.reg A41r15 [8, 10, 41, 42, 43]) (.seq (.reg A41r16 [8, 10, 41, 42, 43, 50]) (.cond (.tmp 50) [8, 10, 41, 42, 43] (.reg A41r17 [8, 41, 42, 43]) [8, 41, 42, 43] .skip)))
abbrev A41r19 : List AIns := [⟨(some 55), (.bin .add (.tmp 43) (.cst (.int .i64 1))), none⟩, ⟨(some 43), (.mv (.tmp 55)), none⟩]
abbrev A41l13 : ACode := (.seq (.reg A41r14 [8, 41, 42, 43, 44]) (.seq (.cond (.tmp 44) [8, 41, 42, 43] .skip [8] (.exit 2)) (.seq (.block 3 A41c18) (.reg A41r19 [8, 41, 42, 43]))))
abbrev A41r20 : List AIns := [⟨(some 56), (.mv (.tmp 8)), none⟩, ⟨(some 4), (.mv (.tmp 56)), none⟩]
def A41 : AFun := ⟨57, 2, [(.tmp 4)], (.seq (.reg A41r1 [0, 1]) (.seq (.dreg A41d2 [[], [0], [0, 1], [0, 1, 2], [], [0, 1, 2, 3, 4], [0, 1, 2, 3, 4, 5], [], [], [7, 8], [0, 1, 2, 3, 4, 5, 6, 7, 8, 9], [0, 1, 2, 3, 4, 5, 6, 7, 8, 9, 10]] [0, 1, 5]) (.seq (.seq (.reg A41r3 [1, 5, 25, 26, 27]) (.block 0 (.loop A41l4))) (.seq (.reg A41r11 [5, 8]) (.seq (.seq (.reg A41r12 [8, 41, 42, 43]) (.block 2 (.loop A41l13))) (.seq (.reg A41r20 [4]) .ret))))))⟩
theorem A41c : compF Try.prog Try.f41 = some A41 := by kernel_rfl
theorem A41k : Callable Try.prog 41 := fun a w => Try.call41 a w
/- estovers/durable.Images$1 -/
abbrev A42r1 : List AIns := [⟨(some 8), (.mv (.tmp 0)), none⟩, ⟨(some 9), (.load false 1 (.tmp 1)), none⟩, ⟨(some 10), (.len (.tmp 9)), none⟩, ⟨(some 11), (.bin .eql (.tmp 8) (.tmp 10)), none⟩]
abbrev A42d2 : List AIns := [⟨(some 12), (.load false 1 (.tmp 2)), none⟩, ⟨(some 13), (.load false 1 (.tmp 3)), none⟩, ⟨(some 14), (.call (.fnc 43) [(.tmp 13)]), none⟩, ⟨(some 15), (.buildS 1 [.nil] 1 [(0, (1, (.tmp 14)))]), none⟩, ⟨(some 16), (.append 1 24 (.tmp 12) (.tmp 15)), none⟩, ⟨none, (.store 1 (.tmp 2) (.tmp 16)), none⟩]
abbrev A42d2a : List AIns := [⟨(some 12), (.load false 1 (.tmp 2)), none⟩, ⟨(some 13), (.load false 1 (.tmp 3)), none⟩, ⟨(some 14), (.call (.fnc 43) [(.tmp 13)]), none⟩]
abbrev A42d2b : List AIns := [⟨(some 15), (.buildS 1 [.nil] 1 [(0, (1, (.tmp 14)))]), none⟩, ⟨(some 16), (.append 1 24 (.tmp 12) (.tmp 15)), none⟩, ⟨none, (.store 1 (.tmp 2) (.tmp 16)), none⟩]
abbrev A42c3 : ACode := (.seq (.dreg A42d2 [[], [], [1], [1, 2], [0, 1, 2, 3], [0, 1, 2, 3, 4]] []) .ret)
abbrev A42r4 : List AIns := [⟨(some 17), (.load false 1 (.tmp 1)), none⟩, ⟨(some 18), (.mv (.tmp 0)), none⟩, ⟨(some 19), (.iaddr 1 (.tmp 17) (.tmp 18)), none⟩, ⟨(some 20), (.load false 1 (.tmp 19)), none⟩, ⟨(some 21), (.len (.tmp 20)), none⟩, ⟨(some 22), (.mv (.cst (.int .i64 0))), none⟩]
abbrev A42r6 : List AIns := [⟨(some 23), (.bin .lss (.tmp 22) (.tmp 21)), none⟩]
abbrev A42r7 : List AIns := [⟨(some 24), (.iaddr 1 (.tmp 20) (.tmp 22)), none⟩, ⟨(some 25), (.load false 1 (.tmp 24)), none⟩, ⟨(some 7), (.mv (.tmp 25)), none⟩]
abbrev A42r8 : List AIns := [⟨(some 26), (.load false 1 (.tmp 3)), none⟩, ⟨(some 27), (.mv (.tmp 7)), none⟩, ⟨(some 28), (.buildS 1 [.nil] 1 [(0, (1, (.tmp 27)))]), none⟩, ⟨(some 29), (.append 1 24 (.tmp 26) (.tmp 28)), none⟩, ⟨none, (.store 1 (.tmp 3) (.tmp 29)), none⟩]
abbrev A42r9 : List AIns := [⟨(some 30), (.load false 1 (.tmp 4)), none⟩, ⟨(some 31), (.mv (.tmp 0)), none⟩, ⟨(some 32), (.bin .add (.tmp 31) (.cst (.int .i64 1))), none⟩, ⟨(some 33), (.call (.tmp 30) [(.tmp 32)]), none⟩]
abbrev A42r10 : List AIns := [⟨(some 34), (.load false 1 (.tmp 3)), none⟩, ⟨(some 35), (.mv (.tmp 0)), none⟩, ⟨(some 36), (.slice 1 (.tmp 34) none (some (.tmp 35))), none⟩, ⟨none, (.store 1 (.tmp 3) (.tmp 36)), none⟩]
abbrev A42c11 : ACode := (.seq (.reg A42r7 [0, 3, 4, 7, 20, 21, 22]) (.seq (.reg A42r8 [0, 3, 4, 20, 21, 22]) (.seq (.reg A42r9 [0, 3, 4, 20, 21, 22]) (.reg A42r10 [0, 3, 4, 20, 21, 22]))))
abbrev A42r12 : List AIns := [⟨(some 37), (.bin .add (.tmp 22) (.cst (.int .i64 1))), none⟩, ⟨(some 22), (.mv (.tmp 37)), none⟩]
abbrev A42l5 : ACode := (.seq (.reg A42r6 [0, 3, 4, 20, 21, 22, 23]) (.seq (.cond (.tmp 23) [0, 3, 4, 20, 21, 22] .skip [] (.exit 0)) (.seq (.block 1 A42c11) (.reg A42r12 [0, 3, 4, 20, 21, 22]))))
def A42 : AFun := ⟨38, 5, [], (.seq (.seq (.reg A42r1 [0, 1, 2, 3, 4, 11]) (.cond (.tmp 11) [2, 3] A42c3 [0, 1, 3, 4] .skip)) (.seq (.reg A42r4 [0, 3, 4, 20, 21, 22]) (.block 0 (.loop A42l5))))⟩
theorem A42c : compF Try.prog Try.f42 = some A42 := by kernel_rfl
theorem A42k : Callable Try.prog 42 := fun a w => Try.call42 a w
/- estovers/durable.copies -/
abbrev A43r1 : List AIns := [⟨(some 2), (.mv (.cst .nil)), none⟩]
abbrev A43r2 : List AIns := [⟨(some 3), (.mv (.cst .nil)), none⟩]
abbrev A43r3 : List AIns := [⟨(some 6), (.mv (.tmp 0)), none⟩, ⟨(some 7), (.len (.tmp 6)), none⟩, ⟨(some 8), (.mv (.cst (.int .i64 0))), none⟩]
abbrev A43r5 : List AIns := [⟨(some 9), (.bin .lss (.tmp 8) (.tmp 7)), none⟩]
abbrev A43r6 : List AIns := [⟨(some 10), (.iaddr 1 (.tmp 6) (.tmp 8)), none⟩, ⟨(some 11), (.load false 1 (.tmp 10)), none⟩, ⟨(some 5), (.mv (.tmp 11)), none⟩]
abbrev A43r7 : List AIns := [⟨(some 12), (.mv (.tmp 3)), none⟩, ⟨(some 13), (.mv (.tmp 5)), none⟩, ⟨(some 14), (.call (.fnc 63) [(.tmp 13)]), none⟩, ⟨(some 15), (.buildS 1 [.nil] 1 [(0, (1, (.tmp 14)))]), none⟩, ⟨(some 16), (.append 1 24 (.tmp 12) (.tmp 15)), none⟩, ⟨(some 3), (.mv (.tmp 16)), none⟩]
abbrev A43c8 : ACode := (.seq (.reg A43r6 [3, 5, 6, 7, 8]) (.reg A43r7 [3, 6, 7, 8]))
abbrev A43r9 : List AIns := [⟨(some 17), (.bin .add (.tmp 8) (.cst (.int .i64 1))), none⟩, ⟨(some 8), (.mv (.tmp 17)), none⟩]
abbrev A43l4 : ACode := (.seq (.reg A43r5 [3, 6, 7, 8, 9]) (.seq (.cond (.tmp 9) [3, 6, 7, 8] .skip [3] (.exit 0)) (.seq (.block 1 A43c8) (.reg A43r9 [3, 6, 7, 8]))))
abbrev A43r10 : List AIns := [⟨(some 18), (.mv (.tmp 3)), none⟩, ⟨(some 2), (.mv (.tmp 18)), none⟩]
def A43 : AFun := ⟨19, 1, [(.tmp 2)], (.seq (.reg A43r1 [0]) (.seq (.reg A43r2 [0, 3]) (.seq (.seq (.reg A43r3 [3, 6, 7, 8]) (.block 0 (.loop A43l4))) (.seq (.reg A43r10 [2]) .ret))))⟩
theorem A43c : compF Try.prog Try.f43 = some A43 := by kernel_rfl
theorem A43k : Callable Try.prog 43 := fun a w => Try.call43 a w
theorem A43p {ds : List D} {r : D} (hl : ds.length ≤ A43.nt) (hw : W Try.prog A43.code (Fin A43.results r) ⟨argEnv 0 ds, fun _ => none⟩) : PCon Try.prog 43 ds r := pcon_of_W mixed Try.func43 A43k A43c hl hw
/- estovers/estoversref11.choices -/
/- estovers/estoversref11.own -/
/- estovers/estoversref11.submitted -/
/- estovers/estoversref11.completed -/
/- (*estovers/durable.state).latest -/
abbrev A48r1 : List AIns := [⟨(some 4), (.mv (.cst .nil)), none⟩]
abbrev A48r2 : List AIns := [⟨(some 6), (.mv (.tmp 0)), none⟩, ⟨(some 7), (.nilck (.tmp 6)), none⟩, ⟨(some 8), (.faddr 1 (.tmp 7)), none⟩, ⟨(some 9), (.load false 1 (.tmp 8)), none⟩, ⟨(some 10), (.mv (.tmp 1)), none⟩, ⟨(some 11), (.iaddr 1 (.tmp 9) (.tmp 10)), none⟩, ⟨(some 12), (.load false 1 (.tmp 11)), none⟩, ⟨(some 5), (.mv (.tmp 12)), none⟩]
abbrev A48r3 : List AIns := [⟨(some 13), (.mv (.tmp 5)), none⟩, ⟨(some 14), (.eqN true (.tmp 13)), none⟩]
abbrev A48r4 : List AIns := [⟨(some 15), (.mv (.tmp 5)), none⟩, ⟨(some 4), (.mv (.tmp 15)), none⟩]
abbrev A48r5 : List AIns := [⟨(some 16), (.mv (.tmp 0)), none⟩, ⟨(some 17), (.nilck (.tmp 16)), none⟩, ⟨(some 18), (.faddr 0 (.tmp 17)), none⟩, ⟨(some 19), (.load false 1 (.tmp 18)), none⟩, ⟨(some 20), (.mv (.tmp 1)), none⟩, ⟨(some 21), (.iaddr 1 (.tmp 19) (.tmp 20)), none⟩, ⟨(some 22), (.load false 1 (.tmp 21)), none⟩, ⟨(some 4), (.mv (.tmp 22)), none⟩]
def A48 : AFun := ⟨23, 2, [(.tmp 4)], (.seq (.reg A48r1 [0, 1]) (.seq (.seq (.reg A48r2 [0, 1, 5]) (.seq (.reg A48r3 [0, 1, 5, 14]) (.cond (.tmp 14) [5] (.seq (.reg A48r4 [4]) .ret) [0, 1] .skip))) (.seq (.reg A48r5 [4]) .ret)))⟩
theorem A48c : compF Try.prog Try.f48 = some A48 := by kernel_rfl
theorem A48k : Callable Try.prog 48 := fun a w => Try.call48 a w
/- estovers/estoversref11.all -/
/- estovers/estoversref11.flushed -/
/- slices.ContainsFunc[[][]byte,[]byte] -/
abbrev A51r1 : List AIns := [⟨(some 4), (.mv (.cst (.bool false))), none⟩]
abbrev A51r2 : List AIns := [⟨(some 5), (.mv (.tmp 0)), none⟩, ⟨(some 6), (.mv (.tmp 1)), none⟩, ⟨(some 7), (.call (.fnc 71) [(.tmp 5), (.tmp 6)]), none⟩, ⟨(some 8), (.bin .geq (.tmp 7) (.cst (.int .i64 0))), none⟩, ⟨(some 4), (.mv (.tmp 8)), none⟩]
def A51 : AFun := ⟨9, 2, [(.tmp 4)], (.seq (.reg A51r1 [0, 1]) (.seq (.reg A51r2 [4]) .ret))⟩
theorem A51c : compF Try.prog Try.f51 = some A51 := by kernel_rfl
theorem A51k : Callable Try.prog 51 := fun a w => Try.call51 a w
theorem A51p {ds : List D} {r : D} (hl : ds.length ≤ A51.nt) (hw : W Try.prog A51.code (Fin A51.results r) ⟨argEnv 0 ds, fun _ => none⟩) : PCon Try.prog 51 ds r := pcon_of_W mixed Try.func51 A51k A51c hl hw
/- estovers/durable.Allows$1 -/
/- bytes.Equal -/
abbrev A53r1 : List AIns := [⟨(some 4), (.mv (.cst (.bool false))), none⟩]
abbrev A53r2 : List AIns := [⟨(some 5), (.mv (.tmp 0)), none⟩, ⟨(some 6), (.strB (.tmp 5)), none⟩, ⟨(some 7), (.mv (.tmp 1)), none⟩, ⟨(some 8), (.strB (.tmp 7)), none⟩, ⟨(some 9), (.bin .eql (.tmp 6) (.tmp 8)), none⟩, ⟨(some 4), (.mv (.tmp 9)), none⟩]
def A53 : AFun := ⟨10, 2, [(.tmp 4)], (.seq (.reg A53r1 [0, 1]) (.seq (.reg A53r2 [4]) .ret))⟩
theorem A53c : compF Try.prog Try.f53 = some A53 := by kernel_rfl
theorem A53k : Callable Try.prog 53 := fun a w => Try.call53 a w
theorem A53p {ds : List D} {r : D} (hl : ds.length ≤ A53.nt) (hw : W Try.prog A53.code (Fin A53.results r) ⟨argEnv 0 ds, fun _ => none⟩) : PCon Try.prog 53 ds r := pcon_of_W mixed Try.func53 A53k A53c hl hw
/- estovers/estoversref11.has -/
/- estovers/estoverstop.dPage -/
/- estovers/device.New -/
/- estovers/device.Submit -/
/- estovers/device.Complete -/
/- estovers/estoverstop.dHappened -/
/- estovers/device.Check -/
/- estovers/device.clone -/
/- estovers/device.Crash$1 -/
/- bytes.Clone -/
abbrev A63r1 : List AIns := [⟨(some 2), (.mv (.cst .nil)), none⟩]
abbrev A63r2 : List AIns := [⟨(some 3), (.mv (.tmp 0)), none⟩, ⟨(some 4), (.eqN false (.tmp 3)), none⟩]
abbrev A63r3 : List AIns := [⟨(some 2), (.mv (.cst .nil)), none⟩]
abbrev A63r4 : List AIns := [⟨(some 5), (.buildS 1 [(.int .u8 0)] 0 []), none⟩, ⟨(some 6), (.mv (.tmp 0)), none⟩, ⟨(some 7), (.append 1 1 (.tmp 5) (.tmp 6)), none⟩, ⟨(some 2), (.mv (.tmp 7)), none⟩]
def A63 : AFun := ⟨8, 1, [(.tmp 2)], (.seq (.reg A63r1 [0]) (.seq (.seq (.reg A63r2 [0, 4]) (.cond (.tmp 4) [] (.seq (.reg A63r3 [2]) .ret) [0] .skip)) (.seq (.reg A63r4 [2]) .ret)))⟩
theorem A63c : compF Try.prog Try.f63 = some A63 := by kernel_rfl
theorem A63k : Callable Try.prog 63 := fun a w => Try.call63 a w
theorem A63p {ds : List D} {r : D} (hl : ds.length ≤ A63.nt) (hw : W Try.prog A63.code (Fin A63.results r) ⟨argEnv 0 ds, fun _ => none⟩) : PCon Try.prog 63 ds r := pcon_of_W mixed Try.func63 A63k A63c hl hw
/- estovers/device.content -/
/- slices.Clone[[][]byte,[]byte] -/
abbrev A65r1 : List AIns := [⟨(some 2), (.mv (.cst .nil)), none⟩]
abbrev A65r2 : List AIns := [⟨(some 3), (.mv (.tmp 0)), none⟩, ⟨(some 4), (.eqN false (.tmp 3)), none⟩]
abbrev A65r3 : List AIns := [⟨(some 2), (.mv (.cst .nil)), none⟩]
abbrev A65r4 : List AIns := [⟨(some 5), (.buildS 1 [.nil] 0 []), none⟩, ⟨(some 6), (.mv (.tmp 0)), none⟩, ⟨(some 7), (.append 1 24 (.tmp 5) (.tmp 6)), none⟩, ⟨(some 2), (.mv (.tmp 7)), none⟩]
def A65 : AFun := ⟨8, 1, [(.tmp 2)], (.seq (.reg A65r1 [0]) (.seq (.seq (.reg A65r2 [0, 4]) (.cond (.tmp 4) [] (.seq (.reg A65r3 [2]) .ret) [0] .skip)) (.seq (.reg A65r4 [2]) .ret)))⟩
theorem A65c : compF Try.prog Try.f65 = some A65 := by kernel_rfl
theorem A65k : Callable Try.prog 65 := fun a w => Try.call65 a w
theorem A65p {ds : List D} {r : D} (hl : ds.length ≤ A65.nt) (hw : W Try.prog A65.code (Fin A65.results r) ⟨argEnv 0 ds, fun _ => none⟩) : PCon Try.prog 65 ds r := pcon_of_W mixed Try.func65 A65k A65c hl hw
/- (*estovers/durable.state).wrong -/
abbrev A66r1 : List AIns := [⟨(some 4), (.box (.tmp 1)), none⟩, ⟨(some 6), (.mv (.cst (.int .i64 0))), none⟩]
abbrev A66r2 : List AIns := [⟨(some 7), (.faddr 0 (.tmp 4)), none⟩, ⟨(some 8), (.load false 1 (.tmp 7)), none⟩]
abbrev A66r3 : List AIns := [⟨(some 10), (.bin .eql (.tmp 8) (.cst (.int .i64 1))), none⟩, ⟨(some 9), (.mv (.tmp 10)), none⟩]
abbrev A66d4 : List AIns := [⟨(some 12), (.faddr 2 (.tmp 4)), none⟩, ⟨(some 13), (.load false 1 (.tmp 12)), none⟩, ⟨(some 14), (.bin .lss (.tmp 13) (.cst (.int .i64 0))), none⟩, ⟨(some 15), (.mv (.tmp 14)), none⟩, ⟨(some 16), (.faddr 2 (.tmp 4)), (some (15, false))⟩, ⟨(some 17), (.load false 1 (.tmp 16)), (some (15, false))⟩, ⟨(some 18), (.mv (.tmp 0)), (some (15, false))⟩, ⟨(some 19), (.nilck (.tmp 18)), (some (15, false))⟩, ⟨(some 20), (.faddr 0 (.tmp 19)), (some (15, false))⟩, ⟨(some 21), (.load false 1 (.tmp 20)), (some (15, false))⟩, ⟨(some 22), (.len (.tmp 21)), (some (15, false))⟩, ⟨(some 23), (.bin .geq (.tmp 17) (.tmp 22)), (some (15, false))⟩, ⟨(some 24), (.pick (.tmp 15) (.cst (.bool true)) (.tmp 23)), none⟩, ⟨(some 11), (.mv (.tmp 24)), none⟩]
abbrev A66r5 : List AIns := [⟨(some 6), (.mv (.cst (.int .i64 2))), none⟩]
abbrev A66r6 : List AIns := [⟨(some 26), (.faddr 3 (.tmp 4)), none⟩, ⟨(some 27), (.load false 1 (.tmp 26)), none⟩, ⟨(some 28), (.len (.tmp 27)), none⟩, ⟨(some 29), (.bin .neq (.tmp 28) (.cst (.int .i64 32))), none⟩, ⟨(some 25), (.mv (.tmp 29)), none⟩]
abbrev A66r7 : List AIns := [⟨(some 6), (.mv (.cst (.int .i64 3))), none⟩]
abbrev A66r8 : List AIns := [⟨(some 31), (.mv (.tmp 2)), none⟩, ⟨(some 32), (.faddr 1 (.tmp 4)), none⟩, ⟨(some 33), (.load false 1 (.tmp 32)), none⟩, ⟨(some 34), (.mapHas (.tmp 31) (.tmp 33)), none⟩, ⟨(some 30), (.mv (.tmp 34)), none⟩]
abbrev A66r9 : List AIns := [⟨(some 6), (.mv (.cst (.int .i64 7))), none⟩]
abbrev A66c10 : ACode := (.seq (.reg A66r8 [30]) (.cond (.tmp 30) [] (.seq (.reg A66r9 [6]) .ret) [] .skip))
abbrev A66c11 : ACode := (.seq (.reg A66r6 [2, 4, 25]) (.cond (.tmp 25) [] (.seq (.reg A66r7 [6]) .ret) [2, 4] A66c10))
abbrev A66c12 : ACode := (.seq (.dreg A66d4 [[], [0], [0, 1], [0, 1, 2], [0, 1, 2, 3], [0, 1, 2, 3, 4], [0, 1, 2, 3], [0, 1, 2, 3, 6], [0, 1, 2, 3, 6, 7], [0, 1, 2, 3, 6, 7, 8], [0, 1, 2, 3, 6, 7, 8, 9], [0, 1, 2, 3, 4, 5, 6, 7, 8, 9, 10], [0, 1, 2, 3, 4, 5, 6, 7, 8, 9, 10, 11], [0, 1, 2, 3, 4, 5, 6, 7, 8, 9, 10, 11, 12]] [2, 4, 11]) (.cond (.tmp 11) [] (.seq (.reg A66r5 [6]) .ret) [2, 4] A66c11))
abbrev A66r13 : List AIns := [⟨(some 36), (.bin .eql (.tmp 8) (.cst (.int .i64 2))), none⟩, ⟨(some 35), (.mv (.tmp 36)), none⟩]
abbrev A66r14 : List AIns := [⟨(some 37), (.faddr 2 (.tmp 4)), none⟩, ⟨(some 38), (.load false 1 (.tmp 37)), none⟩, ⟨(some 39), (.bin .neq (.tmp 38) (.cst (.int .i64 0))), none⟩, ⟨(some 40), (.mv (.tmp 39)), none⟩, ⟨(some 41), (.faddr 3 (.tmp 4)), (some (40, false))⟩, ⟨(some 42), (.load false 1 (.tmp 41)), (some (40, false))⟩, ⟨(some 43), (.len (.tmp 42)), (some (40, false))⟩, ⟨(some 44), (.bin .neq (.tmp 43) (.cst (.int .i64 0))), (some (40, false))⟩, ⟨(some 45), (.pick (.tmp 40) (.cst (.bool true)) (.tmp 44)), none⟩]
abbrev A66r15 : List AIns := [⟨(some 6), (.mv (.cst (.int .i64 1))), none⟩]
abbrev A66r16 : List AIns := [⟨(some 46), (.mv (.tmp 0)), none⟩, ⟨(some 47), (.faddr 1 (.tmp 4)), none⟩, ⟨(some 48), (.load false 1 (.tmp 47)), none⟩, ⟨(some 49), (.call (.fnc 77) [(.tmp 46), (.tmp 48)]), none⟩, ⟨(some 50), (.bin .lss (.tmp 49) (.cst (.int .i64 0))), none⟩]
abbrev A66r17 : List AIns := [⟨(some 6), (.mv (.cst (.int .i64 6))), none⟩]
abbrev A66c18 : ACode := (.seq (.seq (.reg A66r14 [0, 4, 45]) (.cond (.tmp 45) [] (.seq (.reg A66r15 [6]) .ret) [0, 4] .skip)) (.seq (.reg A66r16 [50]) (.cond (.tmp 50) [] (.seq (.reg A66r17 [6]) .ret) [] .skip)))
abbrev A66r19 : List AIns := [⟨(some 52), (.bin .eql (.tmp 8) (.cst (.int .i64 3))), none⟩, ⟨(some 51), (.mv (.tmp 52)), none⟩]
abbrev A66r20 : List AIns := [⟨(some 53), (.faddr 1 (.tmp 4)), none⟩, ⟨(some 54), (.load false 1 (.tmp 53)), none⟩, ⟨(some 55), (.bin .neq (.tmp 54) (.cst (.int .i64 0))), none⟩, ⟨(some 56), (.mv (.tmp 55)), none⟩, ⟨(some 57), (.faddr 2 (.tmp 4)), (some (56, false))⟩, ⟨(some 58), (.load false 1 (.tmp 57)), (some (56, false))⟩, ⟨(some 59), (.bin .neq (.tmp 58) (.cst (.int .i64 0))), (some (56, false))⟩, ⟨(some 60), (.pick (.tmp 56) (.cst (.bool true)) (.tmp 59)), none⟩, ⟨(some 61), (.mv (.tmp 60)), none⟩, ⟨(some 62), (.faddr 3 (.tmp 4)), (some (61, false))⟩, ⟨(some 63), (.load false 1 (.tmp 62)), (some (61, false))⟩, ⟨(some 64), (.len (.tmp 63)), (some (61, false))⟩, ⟨(some 65), (.bin .neq (.tmp 64) (.cst (.int .i64 0))), (some (61, false))⟩, ⟨(some 66), (.pick (.tmp 61) (.cst (.bool true)) (.tmp 65)), none⟩]
abbrev A66r21 : List AIns := [⟨(some 6), (.mv (.cst (.int .i64 1))), none⟩]
abbrev A66c22 : ACode := (.seq (.reg A66r20 [66]) (.cond (.tmp 66) [] (.seq (.reg A66r21 [6]) .ret) [] .skip))
abbrev A66r23 : List AIns := [⟨(some 6), (.mv (.cst (.int .i64 1))), none⟩]
abbrev A66c24 : ACode := (.seq (.reg A66r19 [4, 51]) (.cond (.tmp 51) [4] A66c22 [] (.seq (.reg A66r23 [6]) .ret)))
abbrev A66c25 : ACode := (.seq (.reg A66r13 [0, 4, 8, 35]) (.cond (.tmp 35) [0, 4] A66c18 [4, 8] A66c24))
abbrev A66c26 : ACode := (.seq (.reg A66r3 [0, 2, 4, 8, 9]) (.cond (.tmp 9) [0, 2, 4] (.block 1 A66c12) [0, 4, 8] A66c25))
abbrev A66r27 : List AIns := [⟨(some 6), (.mv (.cst (.int .i64 0))), none⟩]
def A66 : AFun := ⟨67, 3, [(.tmp 6)], (.seq (.reg A66r1 [0, 2, 4]) (.seq (.seq (.reg A66r2 [0, 2, 4, 8]) (.block 0 A66c26)) (.seq (.reg A66r27 [6]) .ret)))⟩
theorem A66c : compF Try.prog Try.f66 = some A66 := by kernel_rfl
theorem A66k : Callable Try.prog 66 := fun a w => Try.call66 a w
/- (*estovers/durable.state).apply -/
abbrev A67r1 : List AIns := [⟨(some 3), (.box (.tmp 1)), none⟩]
abbrev A67r2 : List AIns := [⟨(some 7), (.faddr 0 (.tmp 3)), none⟩, ⟨(some 8), (.load false 1 (.tmp 7)), none⟩]
abbrev A67r3 : List AIns := [⟨(some 10), (.bin .eql (.tmp 8) (.cst (.int .i64 1))), none⟩, ⟨(some 9), (.mv (.tmp 10)), none⟩]
abbrev A67d4 : List AIns := [⟨(some 11), (.mv (.tmp 0)), none⟩, ⟨(some 12), (.mv (.tmp 0)), none⟩, ⟨(some 13), (.nilck (.tmp 12)), none⟩, ⟨(some 14), (.faddr 2 (.tmp 13)), none⟩, ⟨(some 15), (.load false 1 (.tmp 14)), none⟩, ⟨(some 16), (.faddr 1 (.tmp 3)), none⟩, ⟨(some 17), (.load false 1 (.tmp 16)), none⟩, ⟨(some 18), (.faddr 2 (.tmp 3)), none⟩, ⟨(some 19), (.load false 1 (.tmp 18)), none⟩, ⟨(some 20), (.faddr 3 (.tmp 3)), none⟩, ⟨(some 21), (.load false 1 (.tmp 20)), none⟩, ⟨(some 22), (.build [(.int .i64 0), (.int .i64 0), .nil] [(0, (1, (.tmp 17))), (1, (1, (.tmp 19))), (2, (1, (.tmp 21)))]), none⟩, ⟨(some 23), (.buildS 3 [(.int .i64 0), (.int .i64 0), .nil] 1 [(0, (3, (.tmp 22)))]), none⟩, ⟨(some 24), (.append 3 40 (.tmp 15) (.tmp 23)), none⟩, ⟨(some 25), (.nilck (.tmp 11)), none⟩, ⟨(some 26), (.faddr 2 (.tmp 25)), none⟩, ⟨none, (.store 1 (.tmp 26) (.tmp 24)), none⟩]
abbrev A67d4a : List AIns := [⟨(some 11), (.mv (.tmp 0)), none⟩, ⟨(some 12), (.mv (.tmp 0)), none⟩, ⟨(some 13), (.nilck (.tmp 12)), none⟩, ⟨(some 14), (.faddr 2 (.tmp 13)), none⟩, ⟨(some 15), (.load false 1 (.tmp 14)), none⟩, ⟨(some 16), (.faddr 1 (.tmp 3)), none⟩, ⟨(some 17), (.load false 1 (.tmp 16)), none⟩, ⟨(some 18), (.faddr 2 (.tmp 3)), none⟩, ⟨(some 19), (.load false 1 (.tmp 18)), none⟩, ⟨(some 20), (.faddr 3 (.tmp 3)), none⟩, ⟨(some 21), (.load false 1 (.tmp 20)), none⟩, ⟨(some 22), (.build [(.int .i64 0), (.int .i64 0), .nil] [(0, (1, (.tmp 17))), (1, (1, (.tmp 19))), (2, (1, (.tmp 21)))]), none⟩]
abbrev A67d4b : List AIns := [⟨(some 23), (.buildS 3 [(.int .i64 0), (.int .i64 0), .nil] 1 [(0, (3, (.tmp 22)))]), none⟩, ⟨(some 24), (.append 3 40 (.tmp 15) (.tmp 23)), none⟩, ⟨(some 25), (.nilck (.tmp 11)), none⟩, ⟨(some 26), (.faddr 2 (.tmp 25)), none⟩, ⟨none, (.store 1 (.tmp 26) (.tmp 24)), none⟩]
abbrev A67c5 : ACode := (.dreg A67d4 [[], [], [1], [1, 2], [1, 2, 3], [], [5], [], [7], [], [9], [5, 6, 7, 8, 9, 10], [5, 6, 7, 8, 9, 10, 11], [1, 2, 3, 4, 5, 6, 7, 8, 9, 10, 11, 12], [0, 1, 2, 3, 4, 5, 6, 7, 8, 9, 10, 11, 12, 13], [0, 1, 2, 3, 4, 5, 6, 7, 8, 9, 10, 11, 12, 13, 14], [0, 1, 2, 3, 4, 5, 6, 7, 8, 9, 10, 11, 12, 13, 14, 15]] [])
abbrev A67r6 : List AIns := [⟨(some 28), (.bin .eql (.tmp 8) (.cst (.int .i64 2))), none⟩, ⟨(some 27), (.mv (.tmp 28)), none⟩]
abbrev A67r7 : List AIns := [⟨(some 29), (.mv (.tmp 0)), none⟩, ⟨(some 30), (.faddr 1 (.tmp 3)), none⟩, ⟨(some 31), (.load false 1 (.tmp 30)), none⟩, ⟨(some 32), (.call (.fnc 77) [(.tmp 29), (.tmp 31)]), none⟩, ⟨(some 4), (.mv (.tmp 32)), none⟩]
abbrev A67d8 : List AIns := [⟨(some 33), (.mv (.tmp 0)), none⟩, ⟨(some 34), (.nilck (.tmp 33)), none⟩, ⟨(some 35), (.faddr 1 (.tmp 34)), none⟩, ⟨(some 36), (.load false 1 (.tmp 35)), none⟩, ⟨(some 37), (.mv (.tmp 0)), none⟩, ⟨(some 38), (.nilck (.tmp 37)), none⟩, ⟨(some 39), (.faddr 2 (.tmp 38)), none⟩, ⟨(some 40), (.load false 1 (.tmp 39)), none⟩, ⟨(some 41), (.mv (.tmp 4)), none⟩, ⟨(some 42), (.iaddr 3 (.tmp 40) (.tmp 41)), none⟩, ⟨(some 43), (.faddr 1 (.tmp 42)), none⟩, ⟨(some 44), (.load false 1 (.tmp 43)), none⟩, ⟨(some 45), (.mv (.tmp 0)), none⟩, ⟨(some 46), (.nilck (.tmp 45)), none⟩, ⟨(some 47), (.faddr 2 (.tmp 46)), none⟩, ⟨(some 48), (.load false 1 (.tmp 47)), none⟩, ⟨(some 49), (.mv (.tmp 4)), none⟩, ⟨(some 50), (.iaddr 3 (.tmp 48) (.tmp 49)), none⟩, ⟨(some 51), (.faddr 2 (.tmp 50)), none⟩, ⟨(some 52), (.load false 1 (.tmp 51)), none⟩, ⟨(some 53), (.iaddr 1 (.tmp 36) (.tmp 44)), none⟩, ⟨none, (.store 1 (.tmp 53) (.tmp 52)), none⟩]
abbrev A67d8p : List AIns := [⟨(some 33), (.mv (.tmp 0)), none⟩, ⟨(some 34), (.nilck (.tmp 33)), none⟩, ⟨(some 35), (.faddr 1 (.tmp 34)), none⟩, ⟨(some 36), (.load false 1 (.tmp 35)), none⟩, ⟨(some 37), (.mv (.tmp 0)), none⟩, ⟨(some 38), (.nilck (.tmp 37)), none⟩, ⟨(some 39), (.faddr 2 (.tmp 38)), none⟩, ⟨(some 40), (.load false 1 (.tmp 39)), none⟩, ⟨(some 41), (.mv (.tmp 4)), none⟩, ⟨(some 42), (.iaddr 3 (.tmp 40) (.tmp 41)), none⟩, ⟨(some 43), (.faddr 1 (.tmp 42)), none⟩, ⟨(some 44), (.load false 1 (.tmp 43)), none⟩, ⟨(some 45), (.mv (.tmp 0)), none⟩, ⟨(some 46), (.nilck (.tmp 45)), none⟩, ⟨(some 47), (.faddr 2 (.tmp 46)), none⟩, ⟨(some 48), (.load false 1 (.tmp 47)), none⟩, ⟨(some 49), (.mv (.tmp 4)), none⟩, ⟨(some 50), (.iaddr 3 (.tmp 48) (.tmp 49)), none⟩, ⟨(some 51), (.faddr 2 (.tmp 50)), none⟩, ⟨(some 52), (.load false 1 (.tmp 51)), none⟩, ⟨(some 53), (.iaddr 1 (.tmp 36) (.tmp 44)), none⟩]
abbrev A67r9 : List AIns := [⟨(some 54), (.mv (.tmp 0)), none⟩, ⟨(some 55), (.mv (.tmp 0)), none⟩, ⟨(some 56), (.nilck (.tmp 55)), none⟩, ⟨(some 57), (.faddr 2 (.tmp 56)), none⟩, ⟨(some 58), (.load false 1 (.tmp 57)), none⟩, ⟨(some 59), (.mv (.tmp 4)), none⟩, ⟨(some 60), (.mv (.tmp 4)), none⟩, ⟨(some 61), (.bin .add (.tmp 60) (.cst (.int .i64 1))), none⟩, ⟨(some 62), (.call (.fnc 78) [(.tmp 58), (.tmp 59), (.tmp 61)]), none⟩, ⟨(some 63), (.nilck (.tmp 54)), none⟩, ⟨(some 64), (.faddr 2 (.tmp 63)), none⟩, ⟨none, (.store 1 (.tmp 64) (.tmp 62)), none⟩]
abbrev A67c10 : ACode := (.seq (.reg A67r7 [0, 4]) (.seq (.dreg A67d8 [[], [0], [0, 1], [0, 1, 2], [], [4], [4, 5], [4, 5, 6], [], [4, 5, 6, 7, 8], [4, 5, 6, 7, 8, 9], [4, 5, 6, 7, 8, 9, 10], [], [12], [12, 13], [12, 13, 14], [], [12, 13, 14, 15, 16], [12, 13, 14, 15, 16, 17], [12, 13, 14, 15, 16, 17, 18], [0, 1, 2, 3, 4, 5, 6, 7, 8, 9, 10, 11, 12, 13, 14, 15, 16, 17, 18, 19], [0, 1, 2, 3, 4, 5, 6, 7, 8, 9, 10, 11, 12, 13, 14, 15, 16, 17, 18, 19, 20]] [0, 4]) (.reg A67r9 [])))
abbrev A67r11 : List AIns := [⟨(some 66), (.bin .eql (.tmp 8) (.cst (.int .i64 3))), none⟩, ⟨(some 65), (.mv (.tmp 66)), none⟩]
abbrev A67r12 : List AIns := [⟨(some 67), (.mv (.tmp 0)), none⟩, ⟨(some 68), (.nilck (.tmp 67)), none⟩, ⟨(some 69), (.faddr 1 (.tmp 68)), none⟩, ⟨(some 70), (.load false 1 (.tmp 69)), none⟩, ⟨(some 71), (.len (.tmp 70)), none⟩, ⟨(some 72), (.mv (.cst (.int .i64 0))), none⟩]
abbrev A67r14 : List AIns := [⟨(some 73), (.bin .lss (.tmp 72) (.tmp 71)), none⟩]
abbrev A67r15 : List AIns := [⟨(some 74), (.mv (.tmp 72)), none⟩, ⟨(some 75), (.iaddr 1 (.tmp 70) (.tmp 72)), none⟩, ⟨(some 76), (.load false 1 (.tmp 75)), none⟩, ⟨(some 5), (.mv (.tmp 74)), none⟩, ⟨(some 6), (.mv (.tmp 76)), none⟩]
abbrev A67r16 : List AIns := [⟨(some 77), (.mv (.tmp 6)), none⟩, ⟨(some 78), (.eqN true (.tmp 77)), none⟩]
abbrev A67d17 : List AIns := [⟨(some 79), (.mv (.tmp 0)), none⟩, ⟨(some 80), (.nilck (.tmp 79)), none⟩, ⟨(some 81), (.faddr 0 (.tmp 80)), none⟩, ⟨(some 82), (.load false 1 (.tmp 81)), none⟩, ⟨(some 83), (.mv (.tmp 5)), none⟩, ⟨(some 84), (.mv (.tmp 0)), none⟩, ⟨(some 85), (.nilck (.tmp 84)), none⟩, ⟨(some 86), (.faddr 1 (.tmp 85)), none⟩, ⟨(some 87), (.load false 1 (.tmp 86)), none⟩, ⟨(some 88), (.mv (.tmp 5)), none⟩, ⟨(some 89), (.mv (.tmp 6)), none⟩, ⟨(some 90), (.iaddr 1 (.tmp 82) (.tmp 83)), none⟩, ⟨none, (.store 1 (.tmp 90) (.tmp 89)), none⟩, ⟨(some 91), (.iaddr 1 (.tmp 87) (.tmp 88)), none⟩, ⟨none, (.store 1 (.tmp 91) (.cst .nil)), none⟩]
abbrev A67d17a : List AIns := [⟨(some 79), (.mv (.tmp 0)), none⟩, ⟨(some 80), (.nilck (.tmp 79)), none⟩, ⟨(some 81), (.faddr 0 (.tmp 80)), none⟩, ⟨(some 82), (.load false 1 (.tmp 81)), none⟩, ⟨(some 83), (.mv (.tmp 5)), none⟩, ⟨(some 84), (.mv (.tmp 0)), none⟩, ⟨(some 85), (.nilck (.tmp 84)), none⟩, ⟨(some 86), (.faddr 1 (.tmp 85)), none⟩, ⟨(some 87), (.load false 1 (.tmp 86)), none⟩, ⟨(some 88), (.mv (.tmp 5)), none⟩, ⟨(some 89), (.mv (.tmp 6)), none⟩, ⟨(some 90), (.iaddr 1 (.tmp 82) (.tmp 83)), none⟩]
abbrev A67d17b : List AIns := [⟨none, (.store 1 (.tmp 90) (.tmp 89)), none⟩, ⟨(some 91), (.iaddr 1 (.tmp 87) (.tmp 88)), none⟩, ⟨none, (.store 1 (.tmp 91) (.cst .nil)), none⟩]
abbrev A67c18 : ACode := (.dreg A67d17 [[], [0], [0, 1], [0, 1, 2], [], [], [5], [5, 6], [5, 6, 7], [], [], [0, 1, 2, 3, 4, 5, 6, 7, 8, 10], [0, 1, 2, 3, 4, 5, 6, 7, 8, 10, 11], [0, 1, 2, 3, 4, 5, 6, 7, 8, 9, 10, 11, 12], [0, 1, 2, 3, 4, 5, 6, 7, 8, 9, 10, 11, 12, 13]] [0, 70, 71, 72])
abbrev A67c19 : ACode := (.seq (.reg A67r15 [0, 5, 6, 70, 71, 72]) (.seq (.reg A67r16 [0, 5, 6, 70, 71, 72, 78]) (.cond (.tmp 78) [0, 5, 6, 70, 71, 72] A67c18 [0, 70, 71, 72] .skip)))
abbrev A67r20 : List AIns := [⟨(some 92), (.bin .add (.tmp 72) (.cst (.int .i64 1))), none⟩, ⟨(some 72), (.mv (.tmp 92)), none⟩]
abbrev A67l13 : ACode := (.seq (.reg A67r14 [0, 70, 71, 72, 73]) (.seq (.cond (.tmp 73) [0, 70, 71, 72] .skip [] (.exit 1)) (.seq (.block 2 A67c19) (.reg A67r20 [0, 70, 71, 72]))))
abbrev A67c21 : ACode := (.seq (.reg A67r12 [0, 70, 71, 72]) (.block 1 (.loop A67l13)))
abbrev A67c22 : ACode := (.seq (.reg A67r11 [0, 65]) (.cond (.tmp 65) [0] A67c21 [] .skip))
abbrev A67c23 : ACode := (.seq (.reg A67r6 [0, 3, 8, 27]) (.cond (.tmp 27) [0, 3] A67c10 [0, 8] A67c22))
abbrev A67c24 : ACode := (.seq (.reg A67r3 [0, 3, 8, 9]) (.cond (.tmp 9) [0, 3] A67c5 [0, 3, 8] A67c23))
def A67 : AFun := ⟨93, 2, [], (.seq (.reg A67r1 [0, 3]) (.seq (.reg A67r2 [0, 3, 8]) (.block 0 A67c24)))⟩
theorem A67c : compF Try.prog Try.f67 = some A67 := by kernel_rfl
theorem A67k : Callable Try.prog 67 := fun a w => Try.call67 a w
/- (*estovers/durable.state).choices$1 -/
abbrev A68r1 : List AIns := [⟨(some 3), (.mv (.cst (.bool false))), none⟩]
abbrev A68r2 : List AIns := [⟨(some 4), (.load false 1 (.tmp 1)), none⟩, ⟨(some 5), (.mv (.tmp 0)), none⟩, ⟨(some 6), (.call (.fnc 53) [(.tmp 4), (.tmp 5)]), none⟩, ⟨(some 3), (.mv (.tmp 6)), none⟩]
def A68 : AFun := ⟨7, 2, [(.tmp 3)], (.seq (.reg A68r1 [0, 1]) (.seq (.reg A68r2 [3]) .ret))⟩
theorem A68c : compF Try.prog Try.f68 = some A68 := by kernel_rfl
theorem A68k : Callable Try.prog 68 := fun a w => Try.call68 a w
theorem A68p {ds : List D} {r : D} (hl : ds.length ≤ A68.nt) (hw : W Try.prog A68.code (Fin A68.results r) ⟨argEnv 0 ds, fun _ => none⟩) : PCon Try.prog 68 ds r := pcon_of_W mixed Try.func68 A68k A68c hl hw
/- estovers/estoversref11.put -/
/- estovers/estoversref11.upto -/
/- slices.IndexFunc[[][]byte,[]byte] -/
abbrev A71r1 : List AIns := [⟨(some 4), (.mv (.cst (.int .i64 0))), none⟩]
abbrev A71r2 : List AIns := [⟨(some 6), (.mv (.tmp 0)), none⟩, ⟨(some 7), (.len (.tmp 6)), none⟩, ⟨(some 8), (.mv (.cst (.int .i64 0))), none⟩]
abbrev A71r4 : List AIns := [⟨(some 9), (.bin .lss (.tmp 8) (.tmp 7)), none⟩]
abbrev A71r5 : List AIns := [⟨(some 10), (.mv (.tmp 8)), none⟩, ⟨(some 5), (.mv (.tmp 10)), none⟩]
abbrev A71r6 : List AIns := [⟨(some 11), (.mv (.tmp 1)), none⟩, ⟨(some 12), (.mv (.tmp 0)), none⟩, ⟨(some 13), (.mv (.tmp 5)), none⟩, ⟨(some 14), (.iaddr 1 (.tmp 12) (.tmp 13)), none⟩, ⟨(some 15), (.load false 1 (.tmp 14)), none⟩, ⟨(some 16), (.call (.tmp 11) [(.tmp 15)]), none⟩]
abbrev A71r7 : List AIns := [⟨(some 17), (.mv (.tmp 5)), none⟩, ⟨(some 4), (.mv (.tmp 17)), none⟩]
abbrev A71c8 : ACode := (.seq (.reg A71r5 [0, 1, 5, 7, 8]) (.seq (.reg A71r6 [0, 1, 5, 7, 8, 16]) (.cond (.tmp 16) [5] (.seq (.reg A71r7 [4]) .ret) [0, 1, 7, 8] .skip)))
abbrev A71r9 : List AIns := [⟨(some 18), (.bin .add (.tmp 8) (.cst (.int .i64 1))), none⟩, ⟨(some 8), (.mv (.tmp 18)), none⟩]
abbrev A71l3 : ACode := (.seq (.reg A71r4 [0, 1, 7, 8, 9]) (.seq (.cond (.tmp 9) [0, 1, 7, 8] .skip [] (.exit 0)) (.seq (.block 1 A71c8) (.reg A71r9 [0, 1, 7, 8]))))
abbrev A71r10 : List AIns := [⟨(some 4), (.mv (.cst (.int .i64 (-1)))), none⟩]
def A71 : AFun := ⟨19, 2, [(.tmp 4)], (.seq (.reg A71r1 [0, 1]) (.seq (.seq (.reg A71r2 [0, 1, 7, 8]) (.block 0 (.loop A71l3))) (.seq (.reg A71r10 [4]) .ret)))⟩
theorem A71c : compF Try.prog Try.f71 = some A71 := by kernel_rfl
theorem A71k : Callable Try.prog 71 := fun a w => Try.call71 a w
theorem A71p {ds : List D} {r : D} (hl : ds.length ≤ A71.nt) (hw : W Try.prog A71.code (Fin A71.results r) ⟨argEnv 0 ds, fun _ => none⟩) : PCon Try.prog 71 ds r := pcon_of_W mixed Try.func71 A71k A71c hl hw
/- estovers/device.request -/
/- slices.Delete[[]estovers/api.Request,estovers/api.Request] -/
/- estovers/device.find -/
/- slices.Insert[[]estovers/api.Cached,estovers/api.Cached] -/
/- estovers/device.page -/
/- (*estovers/durable.state).find -/
abbrev A77r1 : List AIns := [⟨(some 3), (.box (.tmp 1)), none⟩, ⟨(some 4), (.mv (.cst (.int .i64 0))), none⟩]
abbrev A77r2 : List AIns := [⟨(some 5), (.mv (.tmp 0)), none⟩, ⟨(some 6), (.nilck (.tmp 5)), none⟩, ⟨(some 7), (.faddr 2 (.tmp 6)), none⟩, ⟨(some 8), (.load false 1 (.tmp 7)), none⟩, ⟨(some 9), (.mkfn 85 [] [(.tmp 3)]), none⟩, ⟨(some 10), (.call (.fnc 84) [(.tmp 8), (.tmp 9)]), none⟩, ⟨(some 4), (.mv (.tmp 10)), none⟩]
def A77 : AFun := ⟨11, 2, [(.tmp 4)], (.seq (.reg A77r1 [0, 3]) (.seq (.reg A77r2 [4]) .ret))⟩
theorem A77c : compF Try.prog Try.f77 = some A77 := by kernel_rfl
theorem A77k : Callable Try.prog 77 := fun a w => Try.call77 a w
/- slices.Delete[[]estovers/durable.pending,estovers/durable.pending] -/
abbrev A78r1 : List AIns := [⟨(some 6), (.mv (.cst .nil)), none⟩]
abbrev A78r2 : List AIns := [⟨(some 8), (.mv (.tmp 0)), none⟩, ⟨(some 9), (.mv (.tmp 1)), none⟩, ⟨(some 10), (.mv (.tmp 2)), none⟩, ⟨(some 11), (.mv (.tmp 0)), none⟩, ⟨(some 12), (.len (.tmp 11)), none⟩, ⟨(some 13), (.slice3 3 (.tmp 8) (some (.tmp 9)) (.tmp 10) (.tmp 12)), none⟩]
abbrev A78r3 : List AIns := [⟨(some 14), (.mv (.tmp 1)), none⟩, ⟨(some 15), (.mv (.tmp 2)), none⟩, ⟨(some 16), (.bin .eql (.tmp 14) (.tmp 15)), none⟩]
abbrev A78r4 : List AIns := [⟨(some 17), (.mv (.tmp 0)), none⟩, ⟨(some 6), (.mv (.tmp 17)), none⟩]
abbrev A78r5 : List AIns := [⟨(some 18), (.mv (.tmp 0)), none⟩, ⟨(some 19), (.len (.tmp 18)), none⟩, ⟨(some 7), (.mv (.tmp 19)), none⟩]
abbrev A78d6 : List AIns := [⟨(some 20), (.mv (.tmp 0)), none⟩, ⟨(some 21), (.mv (.tmp 1)), none⟩, ⟨(some 22), (.slice 3 (.tmp 20) none (some (.tmp 21))), none⟩, ⟨(some 23), (.mv (.tmp 0)), none⟩, ⟨(some 24), (.mv (.tmp 2)), none⟩, ⟨(some 25), (.slice 3 (.tmp 23) (some (.tmp 24)) none), none⟩, ⟨(some 26), (.append 3 40 (.tmp 22) (.tmp 25)), none⟩, ⟨(some 0), (.mv (.tmp 26)), none⟩]
abbrev A78d6a : List AIns := [⟨(some 20), (.mv (.tmp 0)), none⟩, ⟨(some 21), (.mv (.tmp 1)), none⟩, ⟨(some 22), (.slice 3 (.tmp 20) none (some (.tmp 21))), none⟩, ⟨(some 23), (.mv (.tmp 0)), none⟩, ⟨(some 24), (.mv (.tmp 2)), none⟩, ⟨(some 25), (.slice 3 (.tmp 23) (some (.tmp 24)) none), none⟩]
abbrev A78d6b : List AIns := [⟨(some 26), (.append 3 40 (.tmp 22) (.tmp 25)), none⟩, ⟨(some 0), (.mv (.tmp 26)), none⟩]
abbrev A78r7 : List AIns := [⟨(some 27), (.mv (.tmp 0)), none⟩, ⟨(some 28), (.mv (.tmp 0)), none⟩, ⟨(some 29), (.len (.tmp 28)), none⟩, ⟨(some 30), (.mv (.tmp 7)), none⟩, ⟨(some 31), (.sliceM 3 (.tmp 27) (.tmp 29) (.tmp 30)), none⟩, ⟨none, (.clear 3 [(.int .i64 0), (.int .i64 0), .nil] (.tmp 31)), none⟩]
abbrev A78r8 : List AIns := [⟨(some 32), (.mv (.tmp 0)), none⟩, ⟨(some 6), (.mv (.tmp 32)), none⟩]
def A78 : AFun := ⟨33, 3, [(.tmp 6)], (.seq (.reg A78r1 [0, 1, 2]) (.seq (.reg A78r2 [0, 1, 2]) (.seq (.seq (.reg A78r3 [0, 1, 2, 16]) (.cond (.tmp 16) [0] (.seq (.reg A78r4 [6]) .ret) [0, 1, 2] .skip)) (.seq (.reg A78r5 [0, 1, 2, 7]) (.seq (.dreg A78d6 [[], [], [0, 1], [], [], [3, 4], [0, 1, 2, 3, 4, 5], [0, 1, 2, 3, 4, 5, 6]] [0, 7]) (.seq (.reg A78r7 [0]) (.seq (.reg A78r8 [6]) .ret)))))))⟩
theorem A78c : compF Try.prog Try.f78 = some A78 := by kernel_rfl
theorem A78k : Callable Try.prog 78 := fun a w => Try.call78 a w
/- estovers/estoversref11.last -/
/- slices.BinarySearchFunc[[]estovers/api.Cached,estovers/api.Cached,int] -/
/- estovers/device.find$1 -/
/- slices.rotateRight[estovers/api.Cached] -/
/- slices.IndexFunc[[]estovers/durable.pending,estovers/durable.pending] -/
abbrev A84r1 : List AIns := [⟨(some 4), (.mv (.cst (.int .i64 0))), none⟩]
abbrev A84r2 : List AIns := [⟨(some 6), (.mv (.tmp 0)), none⟩, ⟨(some 7), (.len (.tmp 6)), none⟩, ⟨(some 8), (.mv (.cst (.int .i64 0))), none⟩]
abbrev A84r4 : List AIns := [⟨(some 9), (.bin .lss (.tmp 8) (.tmp 7)), none⟩]
abbrev A84r5 : List AIns := [⟨(some 10), (.mv (.tmp 8)), none⟩, ⟨(some 5), (.mv (.tmp 10)), none⟩]
abbrev A84r6 : List AIns := [⟨(some 11), (.mv (.tmp 1)), none⟩, ⟨(some 12), (.mv (.tmp 0)), none⟩, ⟨(some 13), (.mv (.tmp 5)), none⟩, ⟨(some 14), (.iaddr 3 (.tmp 12) (.tmp 13)), none⟩, ⟨(some 15), (.load true 3 (.tmp 14)), none⟩, ⟨(some 16), (.call (.tmp 11) [(.tmp 15)]), none⟩]
abbrev A84r7 : List AIns := [⟨(some 17), (.mv (.tmp 5)), none⟩, ⟨(some 4), (.mv (.tmp 17)), none⟩]
abbrev A84c8 : ACode := (.seq (.reg A84r5 [0, 1, 5, 7, 8]) (.seq (.reg A84r6 [0, 1, 5, 7, 8, 16]) (.cond (.tmp 16) [5] (.seq (.reg A84r7 [4]) .ret) [0, 1, 7, 8] .skip)))
abbrev A84r9 : List AIns := [⟨(some 18), (.bin .add (.tmp 8) (.cst (.int .i64 1))), none⟩, ⟨(some 8), (.mv (.tmp 18)), none⟩]
abbrev A84l3 : ACode := (.seq (.reg A84r4 [0, 1, 7, 8, 9]) (.seq (.cond (.tmp 9) [0, 1, 7, 8] .skip [] (.exit 0)) (.seq (.block 1 A84c8) (.reg A84r9 [0, 1, 7, 8]))))
abbrev A84r10 : List AIns := [⟨(some 4), (.mv (.cst (.int .i64 (-1)))), none⟩]
def A84 : AFun := ⟨19, 2, [(.tmp 4)], (.seq (.reg A84r1 [0, 1]) (.seq (.seq (.reg A84r2 [0, 1, 7, 8]) (.block 0 (.loop A84l3))) (.seq (.reg A84r10 [4]) .ret)))⟩
theorem A84c : compF Try.prog Try.f84 = some A84 := by kernel_rfl
theorem A84k : Callable Try.prog 84 := fun a w => Try.call84 a w
theorem A84p {ds : List D} {r : D} (hl : ds.length ≤ A84.nt) (hw : W Try.prog A84.code (Fin A84.results r) ⟨argEnv 0 ds, fun _ => none⟩) : PCon Try.prog 84 ds r := pcon_of_W mixed Try.func84 A84k A84c hl hw
/- (*estovers/durable.state).find$1 -/
abbrev A85r1 : List AIns := [⟨(some 2), (.box (.tmp 0)), none⟩, ⟨(some 3), (.mv (.cst (.bool false))), none⟩]
abbrev A85r2 : List AIns := [⟨(some 4), (.faddr 0 (.tmp 2)), none⟩, ⟨(some 5), (.load false 1 (.tmp 4)), none⟩, ⟨(some 6), (.load false 1 (.tmp 1)), none⟩, ⟨(some 7), (.bin .eql (.tmp 5) (.tmp 6)), none⟩, ⟨(some 3), (.mv (.tmp 7)), none⟩]
def A85 : AFun := ⟨8, 2, [(.tmp 3)], (.seq (.reg A85r1 [1, 2]) (.seq (.reg A85r2 [3]) .ret))⟩
theorem A85c : compF Try.prog Try.f85 = some A85 := by kernel_rfl
theorem A85k : Callable Try.prog 85 := fun a w => Try.call85 a w
theorem A85p {ds : List D} {r : D} (hl : ds.length ≤ A85.nt) (hw : W Try.prog A85.code (Fin A85.results r) ⟨argEnv 0 ds, fun _ => none⟩) : PCon Try.prog 85 ds r := pcon_of_W mixed Try.func85 A85k A85c hl hw
/- slices.rotateLeft[estovers/api.Cached] -/
/- slices.Reverse[[]estovers/api.Cached,estovers/api.Cached] -/
end Go.Proofs.Ythblalidmmbcoaa
end
section
/- Histories of a block device: what the reference says, what the machine's state says, and that they agree. No program. -/
set_option linter.unusedSimpArgs false
set_option linter.unusedVariables false
namespace Go.Proofs.Ythblalidmmbcoaa
open Go.AM Classical
def firstI {α : Type} (p : α → Bool) (l : List α) : Int := if l.findIdx p < l.length then (l.findIdx p : Nat) else -1
theorem firstI_at {α : Type} {p : α → Bool} {l : List α} {i : Nat} (hi : i < l.length) (h : p l[i] = true) (hb : ∀ j (hj : j < i), p (l[j]'(by omega)) = false) : firstI p l = i := by
  have : l.findIdx p = i := (List.findIdx_eq hi).2 ⟨h, hb⟩
  rw [firstI, this, if_pos hi]
theorem firstI_no {α : Type} {p : α → Bool} {l : List α} (hb : ∀ j (hj : j < l.length), p l[j] = false) : firstI p l = -1 := by
  have : l.findIdx p = l.length := List.findIdx_eq_length.2 fun x hx => by
    obtain ⟨i, hi, rfl⟩ := List.mem_iff_getElem.1 hx
    exact hb i hi
  rw [firstI, this, if_neg (by omega)]
theorem firstI_nn {α : Type} {p : α → Bool} {l : List α} : 0 ≤ firstI p l ↔ ∃ x ∈ l, p x = true := by
  rw [firstI, ← List.findIdx_lt_length]
  split <;> constructor <;> intro h <;> first | assumption | omega
theorem firstI_sp {α : Type} {p : α → Bool} {l : List α} (h : 0 ≤ firstI p l) : ∃ hk : (firstI p l).toNat < l.length, p (l[(firstI p l).toNat]'hk) = true ∧ ∀ j (hj : j < (firstI p l).toNat), p (l[j]'(by omega)) = false := by
  have hk : l.findIdx p < l.length := by
    unfold firstI at h
    split at h
    · assumption
    · omega
  have e : (firstI p l).toNat = l.findIdx p := by unfold firstI; rw [if_pos hk]; simp
  refine ⟨by omega, ?_, fun j hj => ?_⟩
  · simp only [e]; exact List.findIdx_getElem (w := hk)
  · rw [e] at hj; have := List.not_of_lt_findIdx hj; simpa using this
theorem firstI_app {α : Type} {p : α → Bool} {l : List α} {x : α} : firstI p (l ++ [x]) = if 0 ≤ firstI p l then firstI p l else if p x = true then (l.length : Int) else -1 := by
  by_cases h : 0 ≤ firstI p l
  · rw [if_pos h]
    obtain ⟨hk, h1, h2⟩ := firstI_sp h
    have := firstI_at (p := p) (l := l ++ [x]) (i := (firstI p l).toNat) (by simp; omega) (by rw [List.getElem_append_left hk]; exact h1) (fun j hj => by rw [List.getElem_append_left (by omega)]; exact h2 j hj)
    rw [this]; omega
  · rw [if_neg h]
    have hno : ∀ y ∈ l, p y = false := fun y hy => by
      cases hp : p y with
      | false => rfl
      | true => exact absurd (firstI_nn.2 ⟨y, hy, hp⟩) h
    by_cases hx : p x = true
    · rw [if_pos hx]
      exact firstI_at (by simp) (by simpa using hx) (fun j hj => by rw [List.getElem_append_left hj]; exact hno _ (List.getElem_mem _))
    · rw [if_neg hx]
      refine firstI_no fun j hj => ?_
      by_cases hjl : j < l.length
      · rw [List.getElem_append_left hjl]; exact hno _ (List.getElem_mem _)
      · have : j = l.length := by simp at hj; omega
        subst this
        simpa using hx
def fE (f : Nat → Int) : Nat → Int
  | 0 => 0
  | n + 1 => if fE f n = 0 then f n else fE f n
theorem fE_zero {f : Nat → Int} : ∀ {n}, fE f n = 0 ↔ ∀ i, i < n → f i = 0
  | 0 => by simp [fE]
  | n + 1 => by
    unfold fE
    constructor
    · intro h i hi
      split at h
      · rename_i h0
        rcases Nat.lt_succ_iff_lt_or_eq.1 hi with h1 | rfl
        · exact fE_zero.1 h0 i h1
        · exact h
      · contradiction
    · intro h
      rw [if_pos (fE_zero.2 fun i hi => h i (by omega))]
      exact h n (by omega)
theorem fE_stop {f : Nat → Int} {i : Nat} {e : Int} : ∀ {n}, i < n → (∀ j, j < i → f j = 0) → f i = e → e ≠ 0 → fE f n = e
  | 0, h, _, _, _ => by omega
  | n + 1, h, hj, hf, he => by
    unfold fE
    rcases Nat.lt_succ_iff_lt_or_eq.1 h with h1 | rfl
    · rw [fE_stop h1 hj hf he, if_neg (by omega)]
    · rw [if_pos (fE_zero.2 hj), hf]
theorem fE_congr {f g : Nat → Int} : ∀ {n}, (∀ i, i < n → (∀ j, j < i → f j = 0) → f i = g i) → fE f n = fE g n
  | 0, _ => rfl
  | n + 1, h => by
    have ih := fE_congr (f := f) (g := g) (n := n) fun i hi hj => h i (by omega) hj
    unfold fE
    rw [← ih]
    split
    · rename_i h0; exact h n (by omega) (fE_zero.1 h0)
    · rfl
abbrev Bs := List Int
structure Ev where
  kind : Int
  id : Int
  block : Int
  data : Bs
deriving DecidableEq
def isW (i : Int) (x : Ev) : Bool := decide (x.kind = 1 ∧ x.id = i)
def isD (i : Int) (x : Ev) : Bool := decide (x.kind = 2 ∧ x.id = i)
def subF (l : List Ev) (n : Nat) (i : Int) : Int := firstI (isW i) (l.take n)
def comF (l : List Ev) (n : Nat) (i : Int) : Int := firstI (isD i) (l.take n)
def evE (l : List Ev) (nb : Nat) (i : Nat) : Int :=
  if h : i < l.length then
    if l[i].kind = 1 then (if l[i].block < 0 ∨ nb ≤ l[i].block then 2 else if l[i].data.length ≠ 32 then 3 else if 0 ≤ subF l i l[i].id then 7 else 0)
    else if l[i].kind = 2 then (if l[i].block ≠ 0 ∨ l[i].data.length ≠ 0 then 1 else if subF l i l[i].id < 0 ∨ 0 ≤ comF l i l[i].id then 6 else 0)
    else if l[i].kind = 3 then (if l[i].id ≠ 0 ∨ l[i].block ≠ 0 ∨ l[i].data.length ≠ 0 then 1 else 0)
    else 1
  else 0
def okB (B : List Bs) : Prop := ∀ b ∈ B, b.length = 32
instance (B : List Bs) : Decidable (okB B) := inferInstanceAs (Decidable (∀ b ∈ B, _))
def chkR (B : List Bs) (l : List Ev) : Int := if okB B then fE (evE l B.length) l.length else 3
def lastF (l : List Ev) (b : Int) : Nat → Option Bs
  | 0 => none
  | n + 1 => match l[n]? with
    | some x => if x.kind = 2 then (match l[(subF l n x.id).toNat]? with | some w => if w.block = b then some w.data else lastF l b n | none => lastF l b n) else lastF l b n
    | none => lastF l b n
def fluF (l : List Ev) : Nat → Nat
  | 0 => 0
  | n + 1 => match l[n]? with
    | some x => if x.kind = 3 then n + 1 else fluF l n
    | none => fluF l n
def uptoF (B : List Bs) (l : List Ev) (n : Nat) (b : Nat) : Bs := (lastF l b n).getD (B.getD b [])
/-! ### The state -/
structure Wr where
  id : Int
  block : Int
  data : Bs
structure Sd where
  firm : List Bs
  cache : List (Option Bs)
  out : List Wr
def Ev.wr (x : Ev) : Wr := ⟨x.id, x.block, x.data⟩
def isO (i : Int) (w : Wr) : Bool := decide (w.id = i)
def doneS (s : Sd) (i : Int) : Sd :=
  match s.out[(firstI (isO i) s.out).toNat]? with
  | some w => { firm := s.firm, cache := s.cache.set w.block.toNat (some w.data), out := s.out.eraseIdx (firstI (isO i) s.out).toNat }
  | none => s
def fluS (s : Sd) : Sd := { firm := List.zipWith (fun f (c : Option Bs) => c.getD f) s.firm s.cache, cache := s.cache.map fun _ => none, out := s.out }
def appS (s : Sd) (x : Ev) : Sd :=
  if x.kind = 1 then { firm := s.firm, cache := s.cache, out := s.out ++ [x.wr] } else if x.kind = 2 then doneS s x.id else if x.kind = 3 then fluS s else s
def idsS (ids : List Int) (x : Ev) : List Int := if x.kind = 1 then x.id :: ids else ids
def wroS (s : Sd) (ids : List Int) (x : Ev) : Int :=
  if x.kind = 1 then (if x.block < 0 ∨ s.firm.length ≤ x.block then 2 else if x.data.length ≠ 32 then 3 else if x.id ∈ ids then 7 else 0)
  else if x.kind = 2 then (if x.block ≠ 0 ∨ x.data.length ≠ 0 then 1 else if firstI (isO x.id) s.out < 0 then 6 else 0)
  else if x.kind = 3 then (if x.id ≠ 0 ∨ x.block ≠ 0 ∨ x.data.length ≠ 0 then 1 else 0)
  else 1
def stS (B : List Bs) (l : List Ev) : Nat → Sd
  | 0 => { firm := B, cache := List.replicate B.length none, out := [] }
  | n + 1 => match l[n]? with | some x => appS (stS B l n) x | none => stS B l n
def idS (l : List Ev) : Nat → List Int
  | 0 => []
  | n + 1 => match l[n]? with | some x => idsS (idS l n) x | none => idS l n
def errS (B : List Bs) (l : List Ev) (i : Nat) : Int := match l[i]? with | some x => wroS (stS B l i) (idS l i) x | none => 0
def chkS (B : List Bs) (l : List Ev) : Int := if okB B then fE (errS B l) l.length else 3
theorem stS_s {B : List Bs} {l : List Ev} {n : Nat} (h : n < l.length) : stS B l (n + 1) = appS (stS B l n) l[n] := by rw [stS, List.getElem?_eq_getElem h]
theorem idS_s {l : List Ev} {n : Nat} (h : n < l.length) : idS l (n + 1) = idsS (idS l n) l[n] := by rw [idS, List.getElem?_eq_getElem h]
theorem errS_s {B : List Bs} {l : List Ev} {n : Nat} (h : n < l.length) : errS B l n = wroS (stS B l n) (idS l n) l[n] := by rw [errS, List.getElem?_eq_getElem h]
theorem subF_s {l : List Ev} {n : Nat} (h : n < l.length) (i : Int) : subF l (n + 1) i = if 0 ≤ subF l n i then subF l n i else if isW i l[n] = true then (n : Int) else -1 := by
  unfold subF
  rw [List.take_succ_eq_append_getElem h, firstI_app, List.length_take, Nat.min_eq_left (by omega)]
theorem comF_s {l : List Ev} {n : Nat} (h : n < l.length) (i : Int) : comF l (n + 1) i = if 0 ≤ comF l n i then comF l n i else if isD i l[n] = true then (n : Int) else -1 := by
  unfold comF
  rw [List.take_succ_eq_append_getElem h, firstI_app, List.length_take, Nat.min_eq_left (by omega)]
theorem subF_ge (l : List Ev) (n : Nat) (i : Int) : -1 ≤ subF l n i := by unfold subF firstI; split <;> omega
theorem comF_ge (l : List Ev) (n : Nat) (i : Int) : -1 ≤ comF l n i := by unfold comF firstI; split <;> omega
theorem subF_sp {l : List Ev} {n : Nat} {i : Int} (h : 0 ≤ subF l n i) : ∃ hk : (subF l n i).toNat < l.length, (subF l n i).toNat < n ∧ l[(subF l n i).toNat].kind = 1 ∧ l[(subF l n i).toNat].id = i := by
  obtain ⟨hk, h1, _⟩ := firstI_sp h
  rw [List.length_take] at hk
  refine ⟨by show (firstI (isW i) (l.take n)).toNat < _; omega, by show (firstI (isW i) (l.take n)).toNat < _; omega, ?_⟩
  rw [List.getElem_take] at h1
  simp only [isW, decide_eq_true_eq] at h1
  exact h1
end Go.Proofs.Ythblalidmmbcoaa
end
section
/- Histories: the machine's state is what the reference says of each block. No program. -/
set_option linter.unusedSimpArgs false
set_option linter.unusedVariables false
namespace Go.Proofs.Ythblalidmmbcoaa
open Go.AM Classical
structure InvS (B : List Bs) (l : List Ev) (n : Nat) : Prop where
  firmL : (stS B l n).firm.length = B.length
  cacheL : (stS B l n).cache.length = B.length
  ids : ∀ i, i ∈ idS l n ↔ 0 ≤ subF l n i
  out : (stS B l n).out = ((l.take n).filter fun x => decide (x.kind = 1 ∧ comF l n x.id < 0)).map Ev.wr
  com : ∀ i, 0 ≤ comF l n i → 0 ≤ subF l n i
  uniq : ∀ j k (hj : j < l.length) (hk : k < l.length), j < n → k < n → l[j].kind = 1 → l[k].kind = 1 → l[j].id = l[k].id → j = k
  blk : ∀ j (hj : j < l.length), j < n → l[j].kind = 1 → 0 ≤ l[j].block ∧ l[j].block < B.length ∧ l[j].data.length = 32
  lat : ∀ b : Nat, b < B.length → ((stS B l n).cache.getD b none).getD ((stS B l n).firm.getD b []) = uptoF B l n b
  firm : ∀ b : Nat, b < B.length → (stS B l n).firm.getD b [] = uptoF B l (fluF l n) b
theorem lastF_s {l : List Ev} {b : Int} {n : Nat} (h : n < l.length) : lastF l b (n + 1) = if l[n].kind = 2 then (match l[(subF l n l[n].id).toNat]? with | some w => if w.block = b then some w.data else lastF l b n | none => lastF l b n) else lastF l b n := by
  rw [lastF, List.getElem?_eq_getElem h]
  all_goals rfl
theorem fluF_s {l : List Ev} {n : Nat} (h : n < l.length) : fluF l (n + 1) = if l[n].kind = 3 then n + 1 else fluF l n := by
  rw [fluF, List.getElem?_eq_getElem h]
theorem errS_R {B : List Bs} {l : List Ev} {n : Nat} (I : InvS B l n) : errS B l n = evE l B.length n := by
  by_cases h : n < l.length
  · rw [errS_s h, evE, dif_pos h, wroS, I.firmL]
    have h1 : l[n].id ∈ idS l n ↔ 0 ≤ subF l n l[n].id := I.ids _
    have h2 : firstI (isO l[n].id) (stS B l n).out < 0 ↔ (subF l n l[n].id < 0 ∨ 0 ≤ comF l n l[n].id) := by
      rw [← Int.not_le, firstI_nn, I.out]
      constructor
      · intro hn
        by_cases hs : subF l n l[n].id < 0
        · exact .inl hs
        · right
          obtain ⟨hk, hkn, hw, hi⟩ := subF_sp (by omega : 0 ≤ subF l n l[n].id)
          refine Classical.byContradiction fun hc => hn ?_
          refine ⟨l[(subF l n l[n].id).toNat].wr, List.mem_map.2 ⟨_, List.mem_filter.2 ⟨?_, ?_⟩, rfl⟩, ?_⟩
          · rw [List.mem_take_iff_getElem]
            exact ⟨_, by omega, rfl⟩
          · rw [decide_eq_true_eq]; exact ⟨hw, by rw [hi]; omega⟩
          · simp [isO, Ev.wr, hi]
      · rintro h3 ⟨w, hw, hi⟩
        obtain ⟨x, hx, rfl⟩ := List.mem_map.1 hw
        obtain ⟨hx1, hx2⟩ := List.mem_filter.1 hx
        have hi' : x.id = l[n].id := of_decide_eq_true hi
        rw [decide_eq_true_eq, hi'] at hx2
        have : 0 ≤ subF l n l[n].id := firstI_nn.2 ⟨x, hx1, by simp [isW, hx2.1, hi']⟩
        omega
    simp only [h1, h2]
  · rw [errS, List.getElem?_eq_none (by omega), evE, dif_neg h]
theorem find_out {l : List Wr} {i : Int} (hu : ∀ j k (hj : j < l.length) (hk : k < l.length), l[j].id = l[k].id → j = k) (h : 0 ≤ firstI (isO i) l) : l.eraseIdx (firstI (isO i) l).toNat = l.filter fun w => decide (w.id ≠ i) := by
  obtain ⟨hk, h1, -⟩ := firstI_sp h
  have hid : l[(firstI (isO i) l).toNat].id = i := by simpa [isO] using h1
  suffices key : ∀ (k : Nat) (hk : k < l.length), l[k].id = i → l.eraseIdx k = l.filter fun w => decide (w.id ≠ i) from key _ hk hid
  clear h h1 hid hk
  intro k hk hid
  induction l generalizing k with
  | nil => simp at hk
  | cons a r ih =>
    have hr : ∀ j k (hj : j < r.length) (hk : k < r.length), r[j].id = r[k].id → j = k := fun j k hj hk he => by
      have := hu (j + 1) (k + 1) (by simp; omega) (by simp; omega) (by simpa using he)
      omega
    cases k with
    | zero =>
      simp at hid
      rw [List.eraseIdx_cons_zero, List.filter_cons, if_neg (by simp [hid])]
      rw [List.filter_eq_self.2]
      intro w hw
      obtain ⟨j, hj, rfl⟩ := List.mem_iff_getElem.1 hw
      simp only [ne_eq, decide_not, Bool.not_eq_eq_eq_not, Bool.not_true, decide_eq_false_iff_not]
      intro he
      have := hu 0 (j + 1) (by simp) (by simp; omega) (by simp [hid, he])
      omega
    | succ k =>
      have hk' : k < r.length := by simpa using hk
      have hid' : r[k].id = i := by simpa using hid
      rw [List.eraseIdx_cons_succ, List.filter_cons, if_pos, ih hr k hk' hid']
      simp only [ne_eq, decide_not, Bool.not_eq_eq_eq_not, Bool.not_true, decide_eq_false_iff_not]
      intro he
      have := hu 0 (k + 1) (by simp) (by simpa using hk') (by simp [hid', he])
      omega
theorem done_at {B : List Bs} {l : List Ev} {n : Nat} (I : InvS B l n) (h : n < l.length) (hk : l[n].kind = 2) (he : errS B l n = 0) :
    ∃ hs : (subF l n l[n].id).toNat < l.length, 0 ≤ subF l n l[n].id ∧ comF l n l[n].id < 0 ∧ l[(subF l n l[n].id).toNat].kind = 1 ∧ l[(subF l n l[n].id).toNat].id = l[n].id ∧
    ∃ hf : (firstI (isO l[n].id) (stS B l n).out).toNat < (stS B l n).out.length, 0 ≤ firstI (isO l[n].id) (stS B l n).out ∧ (stS B l n).out[(firstI (isO l[n].id) (stS B l n).out).toNat] = l[(subF l n l[n].id).toNat].wr := by
  have he2 := he
  rw [errS_R I, evE, dif_pos h, if_neg (by omega), if_pos hk] at he2
  have h3 : ¬ (subF l n l[n].id < 0 ∨ 0 ≤ comF l n l[n].id) := by
    intro h4
    split at he2
    · cases he2
    · omega
  obtain ⟨hs, hsn, h5, h6⟩ := subF_sp (by omega : 0 ≤ subF l n l[n].id)
  refine ⟨hs, by omega, by omega, h5, h6, ?_⟩
  have hf0 : 0 ≤ firstI (isO l[n].id) (stS B l n).out := by
    rw [errS_s h, wroS, if_neg (by omega), if_pos hk] at he
    split at he
    · cases he
    · split at he
      · cases he
      · omega
  obtain ⟨hf, h7, -⟩ := firstI_sp hf0
  refine ⟨hf, hf0, ?_⟩
  suffices key : ∀ (k : Nat) (hf : k < (stS B l n).out.length), isO l[n].id (stS B l n).out[k] = true → (stS B l n).out[k] = l[(subF l n l[n].id).toNat].wr from key _ hf h7
  clear h7 hf hf0
  intro k hf h7
  have hk3 := List.getElem_mem hf
  generalize (stS B l n).out[k] = o at h7 hk3 ⊢
  rw [I.out] at hk3
  obtain ⟨x, hx, hxw⟩ := List.mem_map.1 hk3
  obtain ⟨hx1, hx2⟩ := List.mem_filter.1 hx
  rw [List.mem_take_iff_getElem] at hx1
  obtain ⟨j, hj, rfl⟩ := hx1
  have hid : l[j].id = l[n].id := by
    have : (l[j]'(by omega)).wr.id = l[n].id := by rw [hxw]; exact of_decide_eq_true h7
    exact this
  rw [decide_eq_true_eq] at hx2
  have := I.uniq j (subF l n l[n].id).toNat (by omega) hs (by omega) hsn hx2.1 h5 (hid.trans h6.symm)
  rw [← hxw]
  simp only [this]
theorem lastF_some {l : List Ev} {b : Int} {c : Bs} : ∀ {n}, lastF l b n = some c → ∃ (j : Nat) (hj : j < l.length), l[j].data = c ∧ l[j].block = b
  | 0, h => by cases h
  | n + 1, h => by
    unfold lastF at h
    split at h
    · rename_i x hx
      split at h
      · split at h
        · rename_i w hw
          split at h
          · rename_i hb
            injection h with h
            obtain ⟨hlt, rfl⟩ := List.getElem?_eq_some_iff.1 hw
            exact ⟨_, hlt, h, hb⟩
          · exact lastF_some h
        · exact lastF_some h
      · exact lastF_some h
    · exact lastF_some h
theorem filter_snoc {α : Type} (p : α → Bool) (l : List α) (x : α) : (l ++ [x]).filter p = l.filter p ++ if p x = true then [x] else [] := by
  rw [List.filter_append]; congr 1
  by_cases h : p x = true <;> simp [h]
theorem inv_0 (B : List Bs) (l : List Ev) : InvS B l 0 where
  firmL := rfl
  cacheL := by simp [stS]
  ids i := by simp [idS, subF, firstI]
  out := by simp [stS]
  com i h := by simp [comF, firstI] at h
  uniq j k _ _ h := by omega
  blk j _ h := by omega
  lat b hb := by
    have : (List.replicate B.length (none : Option Bs)).getD b none = none := by rw [List.getD_eq_getElem?_getD, List.getElem?_replicate]; split <;> rfl
    simp only [stS, uptoF, lastF, this]
  firm b hb := by simp [stS, uptoF, lastF, fluF]
theorem set_getD {α : Type} {l : List α} {i j : Nat} {a d : α} (hi : i < l.length) : (l.set i a).getD j d = if i = j then a else l.getD j d := by
  rw [List.getD_eq_getElem?_getD, List.getElem?_set]
  by_cases h : i = j
  · subst h; rw [if_pos rfl, if_pos hi, if_pos rfl]; rfl
  · rw [if_neg h, if_neg h, List.getD_eq_getElem?_getD]
theorem zip_getD {F : List Bs} {C : List (Option Bs)} (hl : F.length = C.length) {b : Nat} (hb : b < F.length) : (List.zipWith (fun f (c : Option Bs) => c.getD f) F C).getD b [] = (C.getD b none).getD (F.getD b []) := by
  rw [List.getD_eq_getElem?_getD, List.getElem?_zipWith, List.getElem?_eq_getElem hb, List.getElem?_eq_getElem (by omega : b < C.length)]
  simp [List.getElem?_eq_getElem hb, List.getElem?_eq_getElem (by omega : b < C.length)]
theorem inv_s {B : List Bs} {l : List Ev} {n : Nat} (I : InvS B l n) (h : n < l.length) (he : errS B l n = 0) : InvS B l (n + 1) := by
  have he2 := he
  rw [errS_R I, evE, dif_pos h] at he2
  by_cases h1 : l[n].kind = 1
  · -- a write is submitted
    rw [if_pos h1] at he2
    have hb : 0 ≤ l[n].block ∧ l[n].block < B.length := by
      split at he2
      · cases he2
      · omega
    rw [if_neg (by omega)] at he2
    have hd : l[n].data.length = 32 := by
      split at he2
      · cases he2
      · omega
    rw [if_neg (by omega)] at he2
    have hs : subF l n l[n].id < 0 := by
      split at he2
      · cases he2
      · omega
    have hcn : ∀ i, comF l (n + 1) i = comF l n i := fun i => by
      rw [comF_s h, if_neg (c := isD i l[n] = true) (by simp [isD, h1])]
      have := comF_ge l n i
      split <;> omega
    have hsn : ∀ i, 0 ≤ subF l (n + 1) i ↔ (0 ≤ subF l n i ∨ l[n].id = i) := fun i => by
      rw [subF_s h]
      simp only [isW, h1, true_and, decide_eq_true_eq]
      split
      · simp_all
      · split <;> simp_all <;> omega
    have hc : comF l n l[n].id < 0 := Classical.byContradiction fun hc => by have := I.com l[n].id (by omega); omega
    have hst : stS B l (n + 1) = { firm := (stS B l n).firm, cache := (stS B l n).cache, out := (stS B l n).out ++ [l[n].wr] } := by rw [stS_s h, appS, if_pos h1]
    refine ⟨by rw [hst]; exact I.firmL, by rw [hst]; exact I.cacheL, ?_, ?_, ?_, ?_, ?_, ?_, ?_⟩
    · intro i
      rw [idS_s h, idsS, if_pos h1, hsn, List.mem_cons, I.ids]
      constructor <;> rintro (h | h) <;> first | exact .inl h | exact .inr h.symm | exact .inr h | exact .inl h.symm
    · rw [hst]
      show (stS B l n).out ++ [l[n].wr] = _
      rw [I.out, List.take_succ_eq_append_getElem h, filter_snoc, if_pos (by rw [decide_eq_true_eq]; exact ⟨h1, by rw [hcn]; exact hc⟩), List.map_append]
      simp only [hcn]
      rfl
    · intro i hi; rw [hcn] at hi; exact (hsn i).2 (.inl (I.com i hi))
    · intro j k hj hk hjn hkn hwj hwk hjk
      have key : ∀ j (hj : j < l.length), j < n → l[j].kind = 1 → l[j].id = l[n].id → False := fun j hj hjn hw hi => by
        have : 0 ≤ subF l n l[n].id := firstI_nn.2 ⟨l[j], by rw [List.mem_take_iff_getElem]; exact ⟨j, by omega, rfl⟩, by simp [isW, hw, hi]⟩
        omega
      rcases Nat.lt_succ_iff_lt_or_eq.1 hjn with h2 | rfl <;> rcases Nat.lt_succ_iff_lt_or_eq.1 hkn with h3 | rfl
      · exact I.uniq j k hj hk h2 h3 hwj hwk hjk
      · exact (key j hj h2 hwj hjk).elim
      · exact (key k hk h3 hwk hjk.symm).elim
      · rfl
    · intro j hj hjn hw
      rcases Nat.lt_succ_iff_lt_or_eq.1 hjn with h2 | rfl
      · exact I.blk j hj h2 hw
      · exact ⟨hb.1, hb.2, hd⟩
    · intro b hbl
      rw [hst]
      show _ = uptoF B l (n + 1) b
      rw [uptoF, lastF_s h, if_neg (by omega)]
      exact I.lat b hbl
    · intro b hbl
      rw [hst, fluF_s h, if_neg (by omega)]
      exact I.firm b hbl
  · by_cases h2 : l[n].kind = 2
    · -- a write completes
      obtain ⟨hs, hs0, hc0, hw1, hw2, hf, hf0, hfw⟩ := done_at I h h2 he
      have hsn : ∀ i, subF l (n + 1) i = subF l n i := fun i => by
        rw [subF_s h, if_neg (c := isW i l[n] = true) (by simp [isW, h1])]
        have := subF_ge l n i
        split <;> omega
      have hcn : ∀ i, comF l (n + 1) i < 0 ↔ (comF l n i < 0 ∧ i ≠ l[n].id) := fun i => by
        rw [comF_s h]
        simp only [isD, h2, true_and, decide_eq_true_eq]
        split
        · constructor <;> intro h <;> omega
        · split
          · rename_i h3; subst h3
            constructor
            · intro h4; omega
            · intro h4; exact absurd rfl h4.2
          · rename_i h3
            constructor
            · intro _; exact ⟨by omega, fun h4 => h3 h4.symm⟩
            · intro _; omega
      have hsl := (subF_sp hs0).2.1
      have hblk := I.blk _ hs hsl hw1
      have huO : ∀ j k (hj : j < (stS B l n).out.length) (hk : k < (stS B l n).out.length), (stS B l n).out[j].id = (stS B l n).out[k].id → j = k := by
        have hnd : ((stS B l n).out.map Wr.id).Nodup := by
          rw [I.out, List.map_map]
          have hall : ∀ m, m ≤ n → (((l.take m).filter fun x => decide (x.kind = 1 ∧ comF l n x.id < 0)).map (Wr.id ∘ Ev.wr)).Nodup := by
            intro m
            induction m with
            | zero => intro _; simp
            | succ m ih =>
              intro hm
              rw [List.take_succ_eq_append_getElem (by omega), filter_snoc, List.map_append]
              have ih := ih (by omega)
              split
              · rename_i hp
                rw [decide_eq_true_eq] at hp
                rw [List.nodup_append]
                refine ⟨ih, by simp, ?_⟩
                intro a ha b hb hab
                subst hab
                simp at hb
                obtain ⟨x, hx, hxa⟩ := List.mem_map.1 ha
                obtain ⟨hx1, hx2⟩ := List.mem_filter.1 hx
                rw [List.mem_take_iff_getElem] at hx1
                obtain ⟨j, hj, rfl⟩ := hx1
                rw [decide_eq_true_eq] at hx2
                have := I.uniq j m (by omega) (by omega) (by omega) (by omega) hx2.1 hp.1 (hxa.trans hb)
                omega
              · simpa using ih
          exact hall n (Nat.le_refl _)
        intro j k hj hk hjk
        have hp := List.pairwise_iff_getElem.1 hnd
        rcases Nat.lt_trichotomy j k with hlt | heq | hlt
        · exact absurd hjk (by have := hp j k (by simpa using hj) (by simpa using hk) hlt; rwa [List.getElem_map, List.getElem_map] at this)
        · exact heq
        · exact absurd hjk.symm (by have := hp k j (by simpa using hk) (by simpa using hj) hlt; rwa [List.getElem_map, List.getElem_map] at this)
      have hst : stS B l (n + 1) = { firm := (stS B l n).firm, cache := (stS B l n).cache.set l[(subF l n l[n].id).toNat].block.toNat (some l[(subF l n l[n].id).toNat].data), out := (stS B l n).out.eraseIdx (firstI (isO l[n].id) (stS B l n).out).toNat } := by
        rw [stS_s h, appS, if_neg h1, if_pos h2, doneS, List.getElem?_eq_getElem hf, hfw]
        rfl
      refine ⟨by rw [hst]; exact I.firmL, by rw [hst]; simpa using I.cacheL, ?_, ?_, ?_, ?_, ?_, ?_, ?_⟩
      · intro i; rw [idS_s h, idsS, if_neg h1, hsn]; exact I.ids i
      · rw [hst]
        show (stS B l n).out.eraseIdx _ = _
        rw [find_out huO hf0, I.out, List.take_succ_eq_append_getElem h, filter_snoc, if_neg (by simp [h1]), List.append_nil, List.filter_map, List.filter_filter]
        congr 1
        apply List.filter_congr
        intro x hx
        simp only [Function.comp_apply, hcn, Ev.wr]
        by_cases a1 : x.kind = 1 <;> by_cases a2 : comF l n x.id < 0 <;> by_cases a3 : x.id = l[n].id <;> simp [a1, a2, a3]
      · intro i hi
        rw [hsn]
        by_cases hi2 : 0 ≤ comF l n i
        · exact I.com i hi2
        · have : ¬ comF l (n + 1) i < 0 := by omega
          rw [hcn] at this
          have h3 : i = l[n].id := Classical.byContradiction fun h3 => this ⟨by omega, h3⟩
          subst h3; exact hs0
      · intro j k hj hk hjn hkn hwj hwk hjk
        rcases Nat.lt_succ_iff_lt_or_eq.1 hjn with h3 | rfl
        · rcases Nat.lt_succ_iff_lt_or_eq.1 hkn with h4 | rfl
          · exact I.uniq j k hj hk h3 h4 hwj hwk hjk
          · omega
        · omega
      · intro j hj hjn hw
        rcases Nat.lt_succ_iff_lt_or_eq.1 hjn with h3 | rfl
        · exact I.blk j hj h3 hw
        · omega
      · intro b hb
        rw [hst]
        show (((stS B l n).cache.set _ _).getD b none).getD ((stS B l n).firm.getD b []) = uptoF B l (n + 1) b
        rw [set_getD (by rw [I.cacheL]; omega), uptoF, lastF_s h, if_pos h2, List.getElem?_eq_getElem hs]
        simp only
        by_cases hbb : l[(subF l n l[n].id).toNat].block = (b : Int)
        · rw [if_pos hbb, if_pos (by omega)]; rfl
        · rw [if_neg hbb, if_neg (by omega)]; exact I.lat b hb
      · intro b hb
        rw [hst, fluF_s h, if_neg (by omega)]
        exact I.firm b hb
    · -- a flush
      have h3 : l[n].kind = 3 := by
        rw [if_neg h1, if_neg h2] at he2
        split at he2
        · assumption
        · cases he2
      have hsn : ∀ i, subF l (n + 1) i = subF l n i := fun i => by
        rw [subF_s h, if_neg (c := isW i l[n] = true) (by simp [isW, h1])]
        have := subF_ge l n i
        split <;> omega
      have hcn : ∀ i, comF l (n + 1) i = comF l n i := fun i => by
        rw [comF_s h, if_neg (c := isD i l[n] = true) (by simp [isD, h2])]
        have := comF_ge l n i
        split <;> omega
      have hst : stS B l (n + 1) = fluS (stS B l n) := by rw [stS_s h, appS, if_neg h1, if_neg h2, if_pos h3]
      have hla : ∀ b : Nat, lastF l b (n + 1) = lastF l b n := fun b => by rw [lastF_s h, if_neg h2]
      have hF := I.firmL
      have hC := I.cacheL
      have hfirm : ∀ b : Nat, b < B.length → (stS B l (n + 1)).firm.getD b [] = uptoF B l n b := fun b hb => by
        rw [hst]
        show (List.zipWith (fun f (c : Option Bs) => c.getD f) (stS B l n).firm (stS B l n).cache).getD b [] = _
        rw [zip_getD (by omega) (by omega)]
        exact I.lat b hb
      refine ⟨?_, ?_, ?_, ?_, ?_, ?_, ?_, ?_, ?_⟩
      · rw [hst]; show (List.zipWith _ _ _).length = _; rw [List.length_zipWith]; omega
      · rw [hst]; show (List.map _ _).length = _; rw [List.length_map]; omega
      · intro i; rw [idS_s h, idsS, if_neg h1, hsn]; exact I.ids i
      · rw [hst]
        show (stS B l n).out = _
        rw [I.out, List.take_succ_eq_append_getElem h, filter_snoc, if_neg (by simp [h1]), List.append_nil]
        simp only [hcn]
      · intro i hi; rw [hcn] at hi; rw [hsn]; exact I.com i hi
      · intro j k hj hk hjn hkn hwj hwk hjk
        rcases Nat.lt_succ_iff_lt_or_eq.1 hjn with h4 | rfl
        · rcases Nat.lt_succ_iff_lt_or_eq.1 hkn with h5 | rfl
          · exact I.uniq j k hj hk h4 h5 hwj hwk hjk
          · omega
        · omega
      · intro j hj hjn hw
        rcases Nat.lt_succ_iff_lt_or_eq.1 hjn with h4 | rfl
        · exact I.blk j hj h4 hw
        · omega
      · intro b hb
        have e1 : (stS B l (n + 1)).cache.getD b none = none := by
          rw [hst]
          show ((stS B l n).cache.map fun _ => none).getD b none = none
          rw [List.getD_eq_getElem?_getD, List.getElem?_map]
          cases (stS B l n).cache[b]? <;> rfl
        rw [e1]
        show (stS B l (n + 1)).firm.getD b [] = _
        rw [hfirm b hb, uptoF, uptoF, hla]
      · intro b hb
        rw [hfirm b hb, fluF_s h, if_pos h3, uptoF, uptoF, hla]
theorem inv_n {B : List Bs} {l : List Ev} : ∀ {n}, n ≤ l.length → (∀ j, j < n → errS B l j = 0) → InvS B l n
  | 0, _, _ => inv_0 B l
  | n + 1, h, he => inv_s (inv_n (by omega) fun j hj => he j (by omega)) (by omega) (he n (by omega))
theorem chk_eq (B : List Bs) (l : List Ev) : chkS B l = chkR B l := by
  unfold chkS chkR
  split
  · exact fE_congr fun i hi hj => errS_R (inv_n (by omega) hj)
  · rfl
theorem chk_inv {B : List Bs} {l : List Ev} (h : chkR B l = 0) : okB B ∧ InvS B l l.length := by
  rw [← chk_eq] at h
  unfold chkS at h
  split at h
  · rename_i hb; exact ⟨hb, inv_n (Nat.le_refl _) (fE_zero.1 h)⟩
  · cases h
end Go.Proofs.Ythblalidmmbcoaa
end
section
/- min -/
/- Contents, events; the functions on bytes. -/
set_option linter.unusedSimpArgs false
set_option linter.unusedVariables false
namespace Go.Proofs.Ythblalidmmbcoaa
open Go.AM Classical
set_option maxRecDepth 100000
set_option maxHeartbeats 4000000
def byB (c : Bs) : Prop := ∀ a ∈ c, 0 ≤ a ∧ a ≤ 255
abbrev bD (c : Bs) : D := .vs 1 (c.map (.int .u8)) c.length
def Ev.cells (x : Ev) : List D := [.int .i64 x.kind, .int .i64 x.id, .int .i64 x.block, bD x.data]
theorem Ev.cells_len (x : Ev) : x.cells.length = 4 := rfl
abbrev bsD (B : List Bs) : D := .vs 1 (B.map bD) B.length
abbrev evD (l : List Ev) : D := .vs 4 (l.flatMap Ev.cells) l.length
theorem evs_len (l : List Ev) : (l.flatMap Ev.cells).length = l.length * 4 := fm_len Ev.cells_len l
theorem evr {l : List Ev} {i : Nat} (h : i < l.length) : ((l.flatMap Ev.cells).drop (i * 4)).take 4 = [.int .i64 l[i].kind, .int .i64 l[i].id, .int .i64 l[i].block, bD l[i].data] := fm_row Ev.cells_len h
theorem ev0 {l : List Ev} {i : Nat} (h : i < l.length) : (l.flatMap Ev.cells)[i * 4]? = some (.int .i64 l[i].kind) := fm_cell (j := 0) Ev.cells_len h (by omega)
theorem ev1 {l : List Ev} {i : Nat} (h : i < l.length) : (l.flatMap Ev.cells)[i * 4 + 1]? = some (.int .i64 l[i].id) := fm_cell (j := 1) Ev.cells_len h (by omega)
theorem ev2 {l : List Ev} {i : Nat} (h : i < l.length) : (l.flatMap Ev.cells)[i * 4 + 2]? = some (.int .i64 l[i].block) := fm_cell (j := 2) Ev.cells_len h (by omega)
theorem ev3 {l : List Ev} {i : Nat} (h : i < l.length) : (l.flatMap Ev.cells)[i * 4 + 3]? = some (bD l[i].data) := fm_cell (j := 3) Ev.cells_len h (by omega)
theorem bsg {B : List Bs} {i : Nat} (h : i < B.length) : (B.map bD)[i]? = some (bD B[i]) := by rw [List.getElem?_map, List.getElem?_eq_getElem h]; rfl
theorem bs_len (B : List Bs) : (B.map bD).length = B.length := List.length_map _
theorem by_len (c : Bs) : (c.map (D.int .u8)).length = c.length := List.length_map _
theorem bD_scal (c : Bs) : (c.map (D.int .u8)).all scal = true := by
  rw [List.all_eq_true]; intro d hd; obtain ⟨n, _, rfl⟩ := List.mem_map.1 hd; rfl
theorem con_end {rs : List ARes} {e : Env} {h : Heap} {d : D} {Q : D → Heap → Prop} (hd : resD rs (AM.get e) h = some d) (hq : Q d h) : True ∧ ∃ d, resD rs (AM.get (St.mk e h).env) (St.mk e h).heap = some d ∧ Q d (St.mk e h).heap := ⟨trivial, d, hd, hq⟩
theorem upd_sub {h : Heap} {k : Nat} {x : List D} (hk : h k = none) (j : Nat) (c : List D) (hj : h j = some c) : upd h k x j = some c := by
  rw [upd_ne (fun e => by rw [e, hk] at hj; cases hj)]; exact hj
theorem Rd_ag {h : Heap} {ds ds' : List D} (hr : All2 (Rd h) ds ds') : Rd h (.agg ds) (.agg ds') := by
  intro s v H hv
  obtain ⟨cs, rfl, hall⟩ := hv.inv_agg
  refine .agg cs ds' (hall.1.trans hr.1) ?_ (fun i v d' hv hd => ?_)
  · intro u hu
    obtain ⟨i, hi⟩ := List.mem_iff_getElem?.1 hu
    have hlt : i < ds.length := by
      rcases Nat.lt_or_ge i ds.length with h' | h'
      · exact h'
      · rw [← hall.1] at h'; simp [List.getElem?_eq_none h'] at hi
    exact (hall.2 i u _ hi (List.getElem?_eq_getElem hlt)).2
  · have hlt : i < ds.length := by
      rcases Nat.lt_or_ge i ds.length with h' | h'
      · exact h'
      · rw [List.getElem?_eq_none (by rw [← hr.1]; exact h')] at hd; cases hd
    have hdi := List.getElem?_eq_getElem hlt
    exact hr.2 i _ d' hdi hd s v H (hall.2 i v _ hv hdi).1
theorem Rd_w3 {h : Heap} {a b : Int} {k k' : IntKind} {sz n : Nat} {c : List D} : Rd h (.agg [.int k a, .int k' b, .vs sz c n]) (.agg [.int k a, .int k' b, .vs sz c n]) := Rd_ag (All2.cons Rd_int (All2.cons Rd_int (All2.cons Rd_vs All2.nil)))
theorem equal_c (a b : Bs) (ha : byB a) (hb : byB b) : PCon Try.prog 53 [bD a, bD b] (.bool (decide (a = b))) := by
  refine A53p (by simp [A53]) ?_
  simp only [A53, argEnv]
  have h1 := fun h => strD_vs0 (h := h) a
  have h2 := fun h => strD_vs0 (h := h) b
  have h3 := strOf_eq ha hb
  rw [← h3]
  clear h3
  generalize strOf a = sa at *
  generalize strOf b = sb at *
  replace h1 := h1 (fun _ => none)
  replace h2 := h2 (fun _ => none)
  repeat' (first | (with_reducible first | refine W_seq ?_ | refine then_n ?_ | refine W_skip ?_ | refine W_ret ?_ | refine then_r ?_) | ((with_reducible refine s_reg ?_); intro K hK) | ((with_reducible refine k_nil ?_); (with_reducible apply s_nil hK); (· exact nmX); clear hK; clear K) | ((with_reducible refine k_mv ?_); (refine s_mv rfl ?_)) | ((with_reducible refine k_eql ?_); (first | (refine s_eql rfl rfl ?_) | (refine s_strEq rfl rfl ?_))) | ((with_reducible refine k_strB ?_); ((with_reducible apply s_strB); (· rfl); (· (first | exact strD_vs (by assumption) | assumption | exact strD_vs0 _ | rfl)))))
  all_goals first | exact Fin_flat trivial rfl rfl | (refine Fin_tup trivial rfl ?_ (Nat.le_of_ble_eq_true rfl); (repeat (first | exact All2.nil | (apply All2.cons; (· first | exact exc_n | exact exc_e | exact exc_v rfl rfl | exact exc_o upd_self rfl rfl)))); done) | (refine Fin_own trivial rfl upd_self ?_ (Nat.le_of_ble_eq_true rfl); (repeat (first | exact All2.nil | (apply All2.cons; (· first | exact exc_n | exact exc_e | exact exc_v rfl rfl | exact exc_o upd_self rfl rfl)))); done) | exact Fin_nil trivial rfl | exact Fin_sl trivial rfl upd_self rfl rfl
theorem bclone_c (c : Bs) (hc : c.length ≤ 1000000) : PCon Try.prog 63 [bD c] (.ow 1 (c.map (.int .u8)) c.length) := by
  have hal := by_len c
  refine A63p (by simp [A63]) ?_
  simp only [A63, argEnv]
  rcases Nat.eq_zero_or_pos c.length with h0 | h0
  · have hp : c = [] := List.length_eq_zero_iff.1 h0
    subst hp
    simp only [List.map_nil, List.length_nil]
    repeat' (first | (with_reducible first | refine W_seq ?_ | refine then_n ?_ | refine W_skip ?_ | refine W_ret ?_ | refine then_r ?_) | ((with_reducible refine s_reg ?_); intro K hK) | ((with_reducible refine k_nil ?_); (with_reducible apply s_nil hK); (· exact nmX); clear hK; clear K) | ((with_reducible refine k_cond ?_); (first | ((with_reducible apply s_condT); (· rfl); (· exact nmX)) | ((with_reducible apply s_condF); (· rfl); (· exact nmX)) | ((with_reducible apply s_condS); (· rfl); (· exact nmX); (· exact nmX)))) | ((with_reducible refine k_mv ?_); (refine s_mv rfl ?_)) | ((with_reducible refine k_eqN ?_); (first | ((with_reducible apply s_eqN); (· rfl); (· (first | rfl | exact isNil_vs (by omega) | exact isNil_sl (by omega))); (· rfl)) | ((with_reducible apply s_eqN0); (· rfl); intro b; cases b))) | ((with_reducible refine k_buildS (dst := some 5) ?_); ((with_reducible apply s_buildS); (· rfl); (· (exact ⟨rfl, by decide⟩)); (· (first | (simp only [fillB, rep, splice, List.reduceReplicate, List.flatten_cons, List.flatten_nil, List.cons_append, List.nil_append, List.append_nil, List.length_cons, List.length_nil, Nat.reduceAdd, Nat.reduceMul, Nat.reduceLeDiff, Nat.reduceEqDiff, eq_self, Nat.le_refl, Nat.zero_add, and_self, and_true, true_and, if_true, List.take_zero, List.take_succ_cons, List.drop_zero, List.drop_succ_cons, List.drop_nil, List.take_nil]; rfl) | rfl)); intro k5 hk5; (try simp only [upd_none] at hk5))) | ((with_reducible refine k_append (dst := some 7) ?_); ((with_reducible apply s_app); (· rfl); (· rfl); (· first | assumption | exact SlOwn.nil | exact SlOwn.emp | exact SlOwn.sl upd_self rfl | ((repeat' (first | assumption | (with_reducible apply SlOwn.upd) | (simp only [upd_none]; assumption))); done) | ((apply SlOwn.sl); (· (exact hpX)); (· first | rfl | assumption))); (· rfl); (· first | exact srcD_sl upd_self rfl | (exact srcD_vs (by first | assumption | simp)) | ((apply srcD_sl); (· (exact hpX)); (· rfl))); (· exact ⟨by first | rfl | assumption | simp, by decide⟩); (· first | (rw [room_n]; omega) | skip); intro da7 ha7 hso7 hoth7)))
    all_goals first | (first | exact Fin_flat trivial rfl rfl | (refine Fin_tup trivial rfl ?_ (Nat.le_of_ble_eq_true rfl); (repeat (first | exact All2.nil | (apply All2.cons; (· first | exact exc_n | exact exc_e | exact exc_v rfl rfl | exact exc_o upd_self rfl rfl)))); done) | (refine Fin_own trivial rfl upd_self ?_ (Nat.le_of_ble_eq_true rfl); (repeat (first | exact All2.nil | (apply All2.cons; (· first | exact exc_n | exact exc_e | exact exc_v rfl rfl | exact exc_o upd_self rfl rfl)))); done) | exact Fin_nil trivial rfl | exact Fin_sl trivial rfl upd_self rfl rfl) | exact Fin_so trivial rfl (by assumption) rfl
  · repeat' (first | (with_reducible first | refine W_seq ?_ | refine then_n ?_ | refine W_skip ?_ | refine W_ret ?_ | refine then_r ?_) | ((with_reducible refine s_reg ?_); intro K hK) | ((with_reducible refine k_nil ?_); (with_reducible apply s_nil hK); (· exact nmX); clear hK; clear K) | ((with_reducible refine k_cond ?_); (first | ((with_reducible apply s_condT); (· rfl); (· exact nmX)) | ((with_reducible apply s_condF); (· rfl); (· exact nmX)) | ((with_reducible apply s_condS); (· rfl); (· exact nmX); (· exact nmX)))) | ((with_reducible refine k_mv ?_); (refine s_mv rfl ?_)) | ((with_reducible refine k_eqN ?_); (first | ((with_reducible apply s_eqN); (· rfl); (· (first | rfl | exact isNil_vs (by omega) | exact isNil_sl (by omega))); (· rfl)) | ((with_reducible apply s_eqN0); (· rfl); intro b; cases b))) | ((with_reducible refine k_buildS (dst := some 5) ?_); ((with_reducible apply s_buildS); (· rfl); (· (exact ⟨rfl, by decide⟩)); (· (first | (simp only [fillB, rep, splice, List.reduceReplicate, List.flatten_cons, List.flatten_nil, List.cons_append, List.nil_append, List.append_nil, List.length_cons, List.length_nil, Nat.reduceAdd, Nat.reduceMul, Nat.reduceLeDiff, Nat.reduceEqDiff, eq_self, Nat.le_refl, Nat.zero_add, and_self, and_true, true_and, if_true, List.take_zero, List.take_succ_cons, List.drop_zero, List.drop_succ_cons, List.drop_nil, List.take_nil]; rfl) | rfl)); intro k5 hk5; (try simp only [upd_none] at hk5))) | ((with_reducible refine k_append (dst := some 7) ?_); ((with_reducible apply s_app); (· rfl); (· rfl); (· first | assumption | exact SlOwn.nil | exact SlOwn.emp | exact SlOwn.sl upd_self rfl | ((repeat' (first | assumption | (with_reducible apply SlOwn.upd) | (simp only [upd_none]; assumption))); done) | ((apply SlOwn.sl); (· (exact hpX)); (· first | rfl | assumption))); (· rfl); (· first | exact srcD_sl upd_self rfl | (exact srcD_vs (by first | assumption | simp)) | ((apply srcD_sl); (· (exact hpX)); (· rfl))); (· exact ⟨by first | rfl | assumption | simp, by decide⟩); (· first | (rw [room_n]; omega) | skip); intro da7 ha7 hso7 hoth7)))
    simp only [List.nil_append, Nat.zero_add] at hso7
    exact Fin_so trivial rfl hso7 (bD_scal c)
theorem page_c (a : Int) : PCon Try.prog 38 [.int .u8 a] (.ow 1 ((List.replicate 32 a).map (.int .u8)) 32) := by
  refine A38p (by simp [A38]) ?_
  simp only [A38, argEnv]
  repeat' (first | (with_reducible first | refine W_seq ?_ | refine then_n ?_ | refine W_block ?_ | refine blk_n ?_ | refine blk_r ?_ | refine blk_e ?_ | refine W_skip ?_ | refine W_ret ?_ | refine then_r ?_ | refine W_exit ?_ | refine then_e ?_) | ((with_reducible refine s_reg ?_); intro K hK) | ((with_reducible refine k_nil ?_); (with_reducible apply s_nil hK); (· exact nmX); clear hK; clear K) | ((with_reducible refine k_mv ?_); (refine s_mv rfl ?_)))
  refine W_for 32 (fun i st => ∃ h' d, st = ⟨[(0, .int .u8 a), (3, d), (4, .int .i64 i)], h'⟩ ∧ SlOwn h' d 1 ((List.replicate i a).map (.int .u8)) i) ⟨_, _, rfl, SlOwn.nil⟩ ?_ ?_
  · rintro i e' h' hi ⟨h1, d, he, ho⟩
    cases he
    have hl : ((List.replicate i a).map (D.int .u8)).length = i := by simp
    repeat' (first | (with_reducible first | refine W_seq ?_ | refine then_n ?_ | refine W_block ?_ | refine blk_n ?_ | refine blk_r ?_ | refine blk_e ?_ | refine W_skip ?_ | refine W_ret ?_ | refine then_r ?_ | refine W_exit ?_ | refine then_e ?_) | ((with_reducible refine s_reg ?_); intro K hK) | ((with_reducible refine k_nil ?_); (with_reducible apply s_nil hK); (· exact nmX); clear hK; clear K) | ((with_reducible refine k_cond ?_); (first | ((with_reducible apply s_condT); (· rfl); (· exact nmX)) | ((with_reducible apply s_condF); (· rfl); (· exact nmX)) | ((with_reducible apply s_condS); (· rfl); (· exact nmX); (· exact nmX)))) | ((with_reducible refine k_mv ?_); (refine s_mv rfl ?_)) | ((with_reducible refine k_lss ?_); (refine s_lss rfl rfl ?_)) | ((with_reducible refine k_add ?_); ((with_reducible apply s_add); (· rfl); (· rfl))) | ((with_reducible refine k_buildS (dst := some 11) ?_); ((with_reducible apply s_buildS); (· rfl); (· (exact ⟨rfl, by decide⟩)); (· (first | (simp only [fillB, rep, splice, List.reduceReplicate, List.flatten_cons, List.flatten_nil, List.cons_append, List.nil_append, List.append_nil, List.length_cons, List.length_nil, Nat.reduceAdd, Nat.reduceMul, Nat.reduceLeDiff, Nat.reduceEqDiff, eq_self, Nat.le_refl, Nat.zero_add, and_self, and_true, true_and, if_true, List.take_zero, List.take_succ_cons, List.drop_zero, List.drop_succ_cons, List.drop_nil, List.take_nil]; rfl) | rfl)); intro k11 hk11; (try simp only [upd_none] at hk11))) | ((with_reducible refine k_append (dst := some 12) ?_); ((with_reducible apply s_app); (· rfl); (· rfl); (· first | assumption | exact SlOwn.nil | exact SlOwn.emp | exact SlOwn.sl upd_self rfl | ((repeat' (first | assumption | (with_reducible apply SlOwn.upd) | (simp only [upd_none]; assumption))); done) | ((apply SlOwn.sl); (· (exact hpX)); (· first | rfl | assumption))); (· rfl); (· first | exact srcD_sl upd_self rfl | (exact srcD_vs (by first | assumption | simp)) | ((apply srcD_sl); (· (exact hpX)); (· rfl))); (· exact ⟨by first | rfl | assumption | simp, by decide⟩); (· first | (rw [room_n]; omega) | skip); intro da12 ha12 hso12 hoth12)) | ((with_reducible refine k_br ?_); (first | (with_reducible first | refine Br_dec ?_ | refine Br_not ?_ | refine Br_eqF ?_ | refine Br_and ?_ | refine Br_or ?_ | refine Br_neg ?_ | refine Br_band ?_ | refine Br_bor ?_ | refine Br_beq ?_) | (refine Br_t (by first | with_reducible rfl | omega | assumption | rfl) ?_) | (refine Br_f (by first | omega | assumption | decide) ?_) | (with_reducible apply Br_sb <;> intro hbr <;> (first | subst hbr | simp only [hbr] | skip)) | (with_reducible apply Br_s <;> intro hbr))) | ((first | (with_reducible apply q_eqI) | (with_reducible apply q_eqN)); (first | exact nuI | exact nuN)))
    all_goals first | (exfalso; omega) | skip
    refine ⟨_, _, rfl, ?_⟩
    have e1 : (List.replicate (i + 1) a).map (D.int .u8) = (List.replicate i a).map (.int .u8) ++ [.int .u8 a] := by rw [List.replicate_succ', List.map_append]; rfl
    rw [e1]
    assumption
  · rintro e' h' ⟨h1, d, he, ho⟩
    cases he
    repeat' (first | (with_reducible first | refine W_seq ?_ | refine then_n ?_ | refine W_block ?_ | refine blk_n ?_ | refine blk_r ?_ | refine blk_e ?_ | refine W_skip ?_ | refine W_ret ?_ | refine then_r ?_ | refine W_exit ?_ | refine then_e ?_) | ((with_reducible refine s_reg ?_); intro K hK) | ((with_reducible refine k_nil ?_); (with_reducible apply s_nil hK); (· exact nmX); clear hK; clear K) | ((with_reducible refine k_cond ?_); (first | ((with_reducible apply s_condT); (· rfl); (· exact nmX)) | ((with_reducible apply s_condF); (· rfl); (· exact nmX)) | ((with_reducible apply s_condS); (· rfl); (· exact nmX); (· exact nmX)))) | ((with_reducible refine k_mv ?_); (refine s_mv rfl ?_)) | ((with_reducible refine k_lss ?_); (refine s_lss rfl rfl ?_)) | ((with_reducible refine k_br ?_); (first | (with_reducible first | refine Br_dec ?_ | refine Br_not ?_ | refine Br_eqF ?_ | refine Br_and ?_ | refine Br_or ?_ | refine Br_neg ?_ | refine Br_band ?_ | refine Br_bor ?_ | refine Br_beq ?_) | (refine Br_t (by first | with_reducible rfl | omega | assumption | rfl) ?_) | (refine Br_f (by first | omega | assumption | decide) ?_) | (with_reducible apply Br_sb <;> intro hbr <;> (first | subst hbr | simp only [hbr] | skip)) | (with_reducible apply Br_s <;> intro hbr))))
    all_goals first | (exfalso; omega) | skip
    exact Fin_so trivial rfl (by assumption) (bD_scal _)
def InN (h : Heap) (cs : List D) (B : List Bs) : Prop := All2 (fun c b => ∃ k, c = .sl k 1 0 b.length ∧ h k = some (b.map (.int .u8))) cs B
theorem InN.step {h h2 h3 : Heap} {d : D} {cs : List D} {B : List Bs} {n : Nat} (H : InN h cs B) (ho : SlOwn h d 1 cs n) (h12 : ∀ k c, h k = some c → h2 k = some c) (h23 : ∀ j c, h2 j = some c → (∀ sz off n, d ≠ .sl j sz off n) → h3 j = some c) : InN h3 cs B := by
  refine ⟨H.1, fun i c b hc hb => ?_⟩
  obtain ⟨k, h1, hk⟩ := H.2 i c b hc hb
  refine ⟨k, h1, h23 k _ (h12 k _ hk) fun sz off m he => ?_⟩
  obtain ⟨_, ⟨_, h4⟩ | ⟨k2, h4, h5⟩⟩ := ho
  · rcases h4 with h4 | h4 <;> rw [h4] at he <;> cases he
  · rw [h4] at he
    injection he with he
    subst he
    rw [hk] at h5
    injection h5 with h5
    have := List.mem_of_getElem? hc
    rw [← h5] at this
    obtain ⟨z, _, hz⟩ := List.mem_map.1 this
    rw [h1] at hz; cases hz
theorem InN.snoc {h : Heap} {cs : List D} {B : List Bs} (H : InN h cs B) {k : Nat} {b : Bs} (hk : h k = some (b.map (.int .u8))) : InN h (cs ++ [.sl k 1 0 b.length]) (B ++ [b]) := H.append (All2.cons ⟨k, rfl, hk⟩ All2.nil)
theorem InN.rn {h : Heap} {cs : List D} {B : List Bs} (H : InN h cs B) : All2 (Rn h) cs (B.map bD) := by
  refine ⟨by rw [H.1, List.length_map], fun i c d hc hd => ?_⟩
  rw [List.getElem?_map] at hd
  cases hb : B[i]? with
  | none => rw [hb] at hd; cases hd
  | some b =>
    rw [hb] at hd
    injection hd with hd; subst hd
    obtain ⟨k, rfl, hk⟩ := H.2 i c b hc hb
    exact Rn_sl hk (by rw [by_len, Nat.mul_one]) (All2_scal (bD_scal b))
theorem take_s {α : Type} {l : List α} {i : Nat} (h : i < l.length) : l.take (i + 1) = l.take i ++ [l[i]] := List.take_succ_eq_append_getElem h
theorem copies_c (B : List Bs) (hB : B.length ≤ 1000000) (hb : ∀ b ∈ B, b.length ≤ 1000000) : PCon Try.prog 43 [bsD B] (.vs 1 (B.map bD) B.length) := by
  refine A43p (by simp [A43]) ?_
  simp only [A43, argEnv]
  have hal := bs_len B
  repeat' (first | (with_reducible first | refine W_seq ?_ | refine then_n ?_ | refine W_block ?_ | refine blk_n ?_ | refine blk_r ?_ | refine blk_e ?_ | refine W_skip ?_ | refine W_ret ?_ | refine then_r ?_ | refine W_exit ?_ | refine then_e ?_) | ((with_reducible refine s_reg ?_); intro K hK) | ((with_reducible refine k_nil ?_); (with_reducible apply s_nil hK); (· exact nmX); clear hK; clear K) | ((with_reducible refine k_mv ?_); (refine s_mv rfl ?_)) | ((with_reducible refine k_len ?_); (first | (refine s_len rfl rfl ?_) | ((with_reducible apply s_len); (· rfl); (· exact SlOwn.len (by assumption))) | ((with_reducible apply s_len); (· rfl); (· assumption)))))
  refine W_for B.length (fun i st => ∃ h' d cs, st = ⟨[(3, d), (6, bsD B), (7, .int .i64 B.length), (8, .int .i64 i)], h'⟩ ∧ SlOwn h' d 1 cs i ∧ InN h' cs (B.take i)) ⟨_, _, [], rfl, SlOwn.nil, All2.nil⟩ ?_ ?_
  · rintro i e' h' hi ⟨h1, d, cs, he, ho, hr⟩
    cases he
    have hg := bsg hi
    have c1 := bclone_c B[i] (hb _ (List.getElem_mem hi))
    have ht := take_s hi
    generalize B[i] = b at *
    repeat' (first | (with_reducible first | refine W_seq ?_ | refine then_n ?_ | refine W_block ?_ | refine blk_n ?_ | refine blk_r ?_ | refine blk_e ?_ | refine W_skip ?_ | refine W_ret ?_ | refine then_r ?_ | refine W_exit ?_ | refine then_e ?_) | ((with_reducible refine s_reg ?_); intro K hK) | ((with_reducible refine k_nil ?_); (with_reducible apply s_nil hK); (· exact nmX); clear hK; clear K) | ((with_reducible refine k_cond ?_); (first | ((with_reducible apply s_condT); (· rfl); (· exact nmX)) | ((with_reducible apply s_condF); (· rfl); (· exact nmX)) | ((with_reducible apply s_condS); (· rfl); (· exact nmX); (· exact nmX)))) | ((with_reducible refine k_mv ?_); (refine s_mv rfl ?_)) | ((with_reducible refine k_lss ?_); (refine s_lss rfl rfl ?_)) | ((with_reducible refine k_iaddr ?_); (first | ((with_reducible apply s_iaddrV); (· rfl); (· rfl); (· (first | omega | exact ⟨rfl, by omega⟩ | skip))) | ((with_reducible apply s_iaddrO); (· rfl); (· rfl); (· (first | omega | exact ⟨rfl, by omega⟩ | skip)); (· (exact hpX))) | ((with_reducible apply s_iaddrSO); (· rfl); (· assumption); (· rfl); (· (first | omega | exact ⟨rfl, by omega⟩ | skip)); (· (first | (simp (disch := omega) only [w64, wu8, wu16, wu32, wu64, tm_nn, td_nn, fd_nn, Int.reduceAdd, Int.reduceSub, Int.reduceMul, Int.reduceDiv, Int.reduceMod, Int.reduceNeg, Int.reduceToNat, Int.toNat_natCast, Int.toNat_zero, Int.zero_add, Int.add_zero, Int.one_mul, Int.reducePow, Nat.mul_one, Nat.zero_add, Nat.add_zero, Nat.zero_mul, Nat.reduceAdd, Nat.reduceMul, Nat.reduceSub, Nat.min_eq_left, IntKind.bits, Nat.sub_zero, hg]; try rfl; done) | rfl)); intro ks hks))) | ((with_reducible refine k_load ?_); (first | ((with_reducible apply s_loadV); (· rfl)) | ((with_reducible apply s_loadP); (· rfl); (· (exact hpX))))) | ((with_reducible refine k_add ?_); ((with_reducible apply s_add); (· rfl); (· rfl))) | ((with_reducible refine k_buildS (dst := some 15) ?_); ((with_reducible apply s_buildS); (· rfl); (· (exact ⟨rfl, by decide⟩)); (· (first | (simp only [fillB, rep, splice, List.reduceReplicate, List.flatten_cons, List.flatten_nil, List.cons_append, List.nil_append, List.append_nil, List.length_cons, List.length_nil, Nat.reduceAdd, Nat.reduceMul, Nat.reduceLeDiff, Nat.reduceEqDiff, eq_self, Nat.le_refl, Nat.zero_add, and_self, and_true, true_and, if_true, List.take_zero, List.take_succ_cons, List.drop_zero, List.drop_succ_cons, List.drop_nil, List.take_nil]; rfl) | rfl)); intro k15 hk15; (try simp only [upd_none] at hk15))) | ((with_reducible refine k_append (dst := some 16) ?_); ((with_reducible apply s_app); (· rfl); (· rfl); (· first | assumption | exact SlOwn.nil | exact SlOwn.emp | exact SlOwn.sl upd_self rfl | ((repeat' (first | assumption | (with_reducible apply SlOwn.upd) | (simp only [upd_none]; assumption))); done) | ((apply SlOwn.sl); (· (exact hpX)); (· first | rfl | assumption))); (· rfl); (· first | exact srcD_sl upd_self rfl | (exact srcD_vs (by first | assumption | simp)) | ((apply srcD_sl); (· (exact hpX)); (· rfl))); (· exact ⟨by first | rfl | assumption | simp, by decide⟩); (· first | (rw [room_n]; omega) | skip); intro da16 ha16 hso16 hoth16)) | ((with_reducible refine k_callF ?_); (first | ((with_reducible apply s_call1); (· rfl)) | ((with_reducible apply s_calln); (· rfl)))) | ((with_reducible refine k_con ?_); (first | ((with_reducible apply con_of_pcon (c1)); (· (repeat (first | exact All2.nil | (apply All2.cons; (· first | ((apply Rd_sl0); (· exact hpX); (· first | rfl | exact scal_i | exact scal_b | assumption); (· first | rfl | assumption | (simp [hg]; done) | (simp [hg]; omega))) | exact rdX))))); intro kC hkC; (try simp only [upd_none] at hkC); simp only [thaw, thawC, List.map, thawH, owOf, owL]))) | ((with_reducible refine k_br ?_); (first | (with_reducible first | refine Br_dec ?_ | refine Br_not ?_ | refine Br_eqF ?_ | refine Br_and ?_ | refine Br_or ?_ | refine Br_neg ?_ | refine Br_band ?_ | refine Br_bor ?_ | refine Br_beq ?_) | (refine Br_t (by first | with_reducible rfl | omega | assumption | rfl) ?_) | (refine Br_f (by first | omega | assumption | decide) ?_) | (with_reducible apply Br_sb <;> intro hbr <;> (first | subst hbr | simp only [hbr] | skip)) | (with_reducible apply Br_s <;> intro hbr))) | ((first | (with_reducible apply q_eqI) | (with_reducible apply q_eqN)); (first | (simp (disch := omega) only [w64, wu8, wu16, wu32, wu64, tm_nn, td_nn, fd_nn, Int.reduceAdd, Int.reduceSub, Int.reduceMul, Int.reduceDiv, Int.reduceMod, Int.reduceNeg, Int.reduceToNat, Int.toNat_natCast, Int.toNat_zero, Int.zero_add, Int.add_zero, Int.one_mul, Int.reducePow, Nat.mul_one, Nat.zero_add, Nat.add_zero, Nat.zero_mul, Nat.reduceAdd, Nat.reduceMul, Nat.reduceSub, Nat.min_eq_left, IntKind.bits, Nat.sub_zero, hg]; try rfl; done) | rfl)) | ((first | (with_reducible apply q_eqL) | (with_reducible apply q_eqO)); (first | (simp (disch := omega) only [upd_self, upd_ne, upd_upd, rep, splice, List.take_succ_cons, List.take_zero, List.drop_succ_cons, List.drop_zero, List.cons_append, List.nil_append, List.append_nil, List.length_cons, List.length_nil, List.reduceReplicate, List.flatten_cons, List.flatten_nil, Nat.reduceAdd, Nat.reduceMul, Nat.reduceSub, Nat.zero_add, Nat.add_zero, List.getElem?_cons_zero, List.getElem?_cons_succ, hg]; try rfl; done) | rfl)))
    all_goals first | (exfalso; omega) | skip
    have hkn : ∀ k c, h' k = some c → upd (upd h' kC (b.map (.int .u8))) k15 [.sl kC 1 0 b.length] k = some c := fun k c hk => by
      rw [upd_ne (fun e => by rw [e, hk15.2] at hk; cases hk), upd_ne (fun e => by rw [e, hkC] at hk; cases hk)]; exact hk
    refine ⟨_, _, _, rfl, hso16, ?_⟩
    rw [ht]
    refine (hr.step ho hkn hoth16).snoc (hoth16 kC _ ?_ ?_)
    · rw [upd_ne (Ne.symm hk15.1)]; exact upd_self
    · intro sz off n he
      obtain ⟨_, ⟨_, h4⟩ | ⟨k2, h4, h5⟩⟩ := ho
      · rcases h4 with h4 | h4 <;> rw [h4] at he <;> cases he
      · rw [h4] at he; injection he with he; subst he; rw [hkC] at h5; cases h5
  · rintro e' h' ⟨h1, d, cs, he, ho, hr⟩
    cases he
    repeat' (first | (with_reducible first | refine W_seq ?_ | refine then_n ?_ | refine W_block ?_ | refine blk_n ?_ | refine blk_r ?_ | refine blk_e ?_ | refine W_skip ?_ | refine W_ret ?_ | refine then_r ?_ | refine W_exit ?_ | refine then_e ?_) | ((with_reducible refine s_reg ?_); intro K hK) | ((with_reducible refine k_nil ?_); (with_reducible apply s_nil hK); (· exact nmX); clear hK; clear K) | ((with_reducible refine k_cond ?_); (first | ((with_reducible apply s_condT); (· rfl); (· exact nmX)) | ((with_reducible apply s_condF); (· rfl); (· exact nmX)) | ((with_reducible apply s_condS); (· rfl); (· exact nmX); (· exact nmX)))) | ((with_reducible refine k_mv ?_); (refine s_mv rfl ?_)) | ((with_reducible refine k_lss ?_); (refine s_lss rfl rfl ?_)) | ((with_reducible refine k_br ?_); (first | (with_reducible first | refine Br_dec ?_ | refine Br_not ?_ | refine Br_eqF ?_ | refine Br_and ?_ | refine Br_or ?_ | refine Br_neg ?_ | refine Br_band ?_ | refine Br_bor ?_ | refine Br_beq ?_) | (refine Br_t (by first | with_reducible rfl | omega | assumption | rfl) ?_) | (refine Br_f (by first | omega | assumption | decide) ?_) | (with_reducible apply Br_sb <;> intro hbr <;> (first | subst hbr | simp only [hbr] | skip)) | (with_reducible apply Br_s <;> intro hbr))))
    all_goals first | (exfalso; omega) | skip
    rw [List.take_length] at hr
    exact Fin_rn trivial rfl (Rn_so ho hr.rn) rfl
end Go.Proofs.Ythblalidmmbcoaa
end
section
/- min -/
/- The state in memory; finding, reading. -/
set_option linter.unusedSimpArgs false
set_option linter.unusedVariables false
namespace Go.Proofs.Ythblalidmmbcoaa
open Go.AM Classical
set_option maxRecDepth 100000
set_option maxHeartbeats 4000000
/-! ### Slices whose block may be longer -/
def SlPre (h : Heap) (d : D) (sz : Nat) (cells : List D) (n : Nat) : Prop :=
  cells.length = n * sz ∧ ((n = 0 ∧ (d = .nil ∨ d = .emp)) ∨ ∃ k tl t, d = .sl k sz 0 n ∧ h k = some (cells ++ tl) ∧ tl.length = t * sz)
theorem SlPre.nil {h : Heap} {sz : Nat} : SlPre h .nil sz [] 0 := ⟨by simp, .inl ⟨rfl, .inl rfl⟩⟩
theorem SlPre.len {h : Heap} {d : D} {sz n : Nat} {cells : List D} (ho : SlPre h d sz cells n) : lenD d = some n := by
  obtain ⟨_, ⟨rfl, rfl | rfl⟩ | ⟨k, tl, t, rfl, _, _⟩⟩ := ho <;> rfl
theorem SlPre.mono {h h2 : Heap} {d : D} {sz n : Nat} {cells : List D} (ho : SlPre h d sz cells n) (hh : ∀ j c, h j = some c → (∃ sz off n, d = .sl j sz off n) → h2 j = some c) : SlPre h2 d sz cells n := by
  obtain ⟨hl, h0 | ⟨k, tl, t, rfl, hk, ht⟩⟩ := ho
  · exact ⟨hl, .inl h0⟩
  · exact ⟨hl, .inr ⟨k, tl, t, rfl, hh k _ hk ⟨_, _, _, rfl⟩, ht⟩⟩
theorem SlPre.pos {h : Heap} {d : D} {sz n : Nat} {cells : List D} (ho : SlPre h d sz cells n) (hn : 0 < n) : ∃ k tl t, d = .sl k sz 0 n ∧ h k = some (cells ++ tl) ∧ tl.length = t * sz := by
  obtain ⟨_, ⟨h0, _⟩ | h1⟩ := ho
  · omega
  · exact h1
theorem append1_pre {h : Heap} {d dy : D} {sz n bytes : Nat} {cells new : List D} (ho : SlPre h d sz cells n) (hy : lenA dy = some 1) (hs : srcD h sz 1 dy = some new) (hl : new.length = sz) (hsz : 0 < sz) (hr : (n + 1) * bytes ≤ room) {k : Nat} (hk : h k = none) :
    ∃ d' h', appD h k sz bytes d dy = some (d', h') ∧ SlPre h' d' sz (cells ++ new) (n + 1) ∧ ∀ j c, h j = some c → (∀ sz off n, d ≠ .sl j sz off n) → h' j = some c ∧ ∀ sz off n, d' ≠ .sl j sz off n := by
  obtain ⟨hcl, ⟨rfl, hd⟩ | ⟨k2, tl, t, rfl, hk2, ht⟩⟩ := ho
  · have hc0 : cells = [] := List.length_eq_zero_iff.1 (by simpa using hcl)
    subst hc0
    refine ⟨.sl k sz 0 1, upd h k new, ?_, ⟨by simp [hl], .inr ⟨k, [], 0, rfl, by simp [upd], by simp⟩⟩, ?_⟩
    · rcases hd with rfl | rfl <;> simp [appD, hy, hs] <;> omega
    · intro j c hj _
      have hjk : j ≠ k := fun e => by rw [e, hk] at hj; cases hj
      exact ⟨by rw [upd_ne hjk]; exact hj, fun sz off n he => by injection he with he; exact hjk he.symm⟩
  · have hlen : (cells ++ tl).length = n * sz + t * sz := by simp [hcl, ht]
    by_cases ht0 : t = 0
    · subst ht0
      have htl : tl = [] := List.length_eq_zero_iff.1 (by simpa using ht)
      subst htl
      simp only [List.append_nil] at hk2 hlen
      refine ⟨.sl k sz 0 (n + 1), upd (del h k2) k (cells ++ new), ?_, ⟨by simp [hl, hcl, Nat.add_mul], .inr ⟨k, [], 0, rfl, by simp [upd], by simp⟩⟩, ?_⟩
      · have h1 : ¬ (n + 1) * sz ≤ n * sz := by rw [Nat.add_mul]; omega
        simp [appD, hy, hs, hk2, hcl, h1, hr]
      · intro j c hj hd
        have hjk : j ≠ k := fun e => by rw [e, hk] at hj; cases hj
        have hjk2 : j ≠ k2 := fun e => hd sz 0 n (by rw [e])
        refine ⟨by rw [upd_ne hjk]; simp only [del]; rw [if_neg hjk2]; exact hj, fun sz off n he => by injection he with he; exact hjk he.symm⟩
    · have h1 : (n + 1) * sz ≤ (cells ++ tl).length := by
        rw [hlen, Nat.add_mul]
        have : 1 * sz ≤ t * sz := Nat.mul_le_mul_right _ (by omega)
        omega
      have h2 : splice (cells ++ tl) (n * sz) new = (cells ++ new) ++ tl.drop sz := by
        unfold splice
        rw [List.take_append_of_le_length (by omega), List.take_of_length_le (by omega), hl, List.drop_append, List.drop_eq_nil_of_le (by omega), hcl]
        simp
      refine ⟨.sl k2 sz 0 (n + 1), upd h k2 ((cells ++ new) ++ tl.drop sz), ?_, ⟨by simp [hl, hcl, Nat.add_mul], .inr ⟨k2, tl.drop sz, t - 1, rfl, by simp [upd], ?_⟩⟩, ?_⟩
      · have h3 : 0 + (n + 1) * sz ≤ (cells ++ tl).length := by omega
        simp only [appD, hy, hs, hk2, if_true]
        rw [if_neg (by omega), if_pos h3, Nat.zero_add, h2]
      · rw [List.length_drop, ht, Nat.sub_mul]; omega
      · intro j c hj hd
        have hjk2 : j ≠ k2 := fun e => hd sz 0 n (by rw [e])
        exact ⟨by rw [upd_ne hjk2]; exact hj, fun sz off m he => hd sz off n (by injection he with he; subst he; exact (hjk2 rfl).elim)⟩
theorem s_appP {P : Program} {e : Env} {h : Heap} {r : List AIns} {K : Env → Heap → Prop} {t : Nat} {sz bytes n : Nat} {x y : O} {d dy : D} {cells new : List D} (h1 : evO (AM.get e) x = some d) (h2 : evO (AM.get e) y = some dy) (ho : SlPre h d sz cells n) (hy : lenA dy = some 1) (hs : srcD h sz 1 dy = some new) (hl : new.length = sz ∧ 0 < sz) (hr : (n + 1) * bytes ≤ room)
    (hw : ∀ d' h', SlPre h' d' sz (cells ++ new) (n + 1) → (∀ j c, h j = some c → (∀ sz off n, d ≠ .sl j sz off n) → h' j = some c ∧ ∀ sz off n, d' ≠ .sl j sz off n) → Wops P r ((t, d') :: e) h' K) : Wops P (⟨some t, .append sz bytes x y, none⟩ :: r) e h K :=
  s_append h1 h2 fun k hk => let ⟨d', h', h3, h4, h5⟩ := append1_pre ho hy hs hl.1 hl.2 hr hk; ⟨d', h', h3, hw d' h' h4 h5⟩
theorem Rd_pre {h : Heap} {d : D} {sz n : Nat} {cells cells' : List D} (ho : SlPre h d sz cells n) (hr : All2 (Rd h) cells cells') : Rd h d (.vs sz cells' n) := by
  obtain ⟨hcl, ⟨rfl, hd⟩ | ⟨k, tl, t, rfl, hk, ht⟩⟩ := ho
  · have hc0 : cells = [] := List.length_eq_zero_iff.1 (by simpa using hcl)
    subst hc0
    have hc1 : cells' = [] := List.length_eq_zero_iff.1 (by have := hr.1; simpa using this.symm)
    subst hc1
    rcases hd with rfl | rfl
    · exact Rd_nil
    · exact Rd_emp
  · intro s v H hv
    obtain ⟨_, ad, cap, rfl, hna, hlc, hq⟩ := hv.inv_sl
    obtain ⟨_, x, hx, _, hown⟩ := H.own k _ hk
    obtain ⟨hcc, hcap⟩ := hq x _ hx
    rw [List.length_append, hcl] at hcc
    rcases hcap with h0 | ⟨b, cs, e, rfl, rfl, hbb, hs⟩
    · obtain rfl : n = 0 := by omega
      have hc0 : cells = [] := List.length_eq_zero_iff.1 (by simpa using hcl)
      subst hc0
      have hc1 : cells' = [] := List.length_eq_zero_iff.1 (by have := hr.1; simpa using this.symm)
      subst hc1
      exact RP.vs0 ad cap sz
    · obtain ⟨hnp, cs2, e2, hh, hl2, hall⟩ := hown b rfl
      have hbl : b < s.w.heap.size := by
        rcases Nat.lt_or_ge b s.w.heap.size with h' | h'
        · exact h'
        · simp [Array.getElem?_eq_none h'] at hh
      have hall2 := hall.take cells.length
      rw [List.take_take, Nat.min_eq_left (by simp), List.take_left' rfl] at hall2
      have hat := (cellsAt_block hh).sub 0 cells.length
      simp only [Nat.add_zero, List.drop_zero] at hat
      refine .vs b 0 cap sz n _ (cs2.toList.take cells.length) (by rw [← hr.1]; exact hcl) hlc hbl (hall2.1.trans hr.1) ?_ hat ?_
      · intro v hv'
        obtain ⟨i, hi⟩ := List.mem_iff_getElem?.1 hv'
        have hlt : i < cells.length := by
          rcases Nat.lt_or_ge i (cs2.toList.take cells.length).length with h' | h'
          · rw [hall2.1] at h'; exact h'
          · simp [List.getElem?_eq_none h'] at hi
        exact (hall2.2 i v _ hi (List.getElem?_eq_getElem hlt)).2
      · intro i v d hv' hd
        have hlt : i < cells.length := by
          rcases Nat.lt_or_ge i cells.length with h' | h'
          · exact h'
          · rw [List.getElem?_eq_none (by rw [← hr.1]; exact h')] at hd; cases hd
        have hci := List.getElem?_eq_getElem hlt
        exact hr.2 i _ d hci hd s v H (hall2.2 i v _ hv' hci).1
/-! ### The state -/
def cD : Option Bs → D
  | none => .nil
  | some c => bD c
def Wr.cells (w : Wr) : List D := [.int .i64 w.id, .int .i64 w.block, bD w.data]
theorem Wr.cells_len (w : Wr) : w.cells.length = 3 := rfl
theorem wrs_len (l : List Wr) : (l.flatMap Wr.cells).length = l.length * 3 := fm_len Wr.cells_len l
theorem wrr {l : List Wr} {i : Nat} (h : i < l.length) : ((l.flatMap Wr.cells).drop (i * 3)).take 3 = [.int .i64 l[i].id, .int .i64 l[i].block, bD l[i].data] := fm_row Wr.cells_len h
theorem wr1 {l : List Wr} {i : Nat} (h : i < l.length) : (l.flatMap Wr.cells)[i * 3 + 1]? = some (.int .i64 l[i].block) := fm_cell (j := 1) Wr.cells_len h (by omega)
theorem wr2 {l : List Wr} {i : Nat} (h : i < l.length) : (l.flatMap Wr.cells)[i * 3 + 2]? = some (bD l[i].data) := fm_cell (j := 2) Wr.cells_len h (by omega)
theorem wrs_rd {h : Heap} (l : List Wr) : All2 (Rd h) (l.flatMap Wr.cells) (l.flatMap Wr.cells) := by
  induction l with
  | nil => exact All2.nil
  | cons w l ih => exact All2.append (All2.cons Rd_int (All2.cons Rd_int (All2.cons Rd_vs All2.nil))) ih
structure StH (h : Heap) (k kF kC : Nat) (dO : D) (s : Sd) : Prop where
  st : h k = some [.sl kF 1 0 s.firm.length, .sl kC 1 0 s.cache.length, dO]
  f : h kF = some (s.firm.map bD)
  c : h kC = some (s.cache.map cD)
  o : SlPre h dO 3 (s.out.flatMap Wr.cells) s.out.length
  ne : kF ≠ k ∧ kC ≠ k ∧ kF ≠ kC
  no : ∀ sz off n, dO ≠ .sl k sz off n ∧ dO ≠ .sl kF sz off n ∧ dO ≠ .sl kC sz off n
def Away (k kF kC : Nat) (dO : D) (j : Nat) : Prop := j ≠ k ∧ j ≠ kF ∧ j ≠ kC ∧ ∀ sz off n, dO ≠ .sl j sz off n
theorem StH.mono {h h2 : Heap} {k kF kC : Nat} {dO : D} {s : Sd} (H : StH h k kF kC dO s) (hh : ∀ j c, h j = some c → h2 j = some c) : StH h2 k kF kC dO s :=
  ⟨hh _ _ H.st, hh _ _ H.f, hh _ _ H.c, H.o.mono fun j c hj _ => hh j c hj, H.ne, H.no⟩
theorem StH.outRd {h : Heap} {k kF kC : Nat} {dO : D} {s : Sd} (H : StH h k kF kC dO s) {kb : Nat} {c : List D} (hk : h kb = none) : Rd (upd h kb c) dO (.vs 3 (s.out.flatMap Wr.cells) s.out.length) :=
  Rd_pre (H.o.mono fun j c hj _ => by rw [upd_ne (fun e => by rw [e, hk] at hj; cases hj)]; exact hj) (wrs_rd _)
theorem isO_c (w : Wr) (i : Int) : PCon Try.prog 85 [.agg w.cells, .vp [.int .i64 i] 0] (.bool (isO i w)) := by
  refine A85p (by simp [A85]) ?_
  simp only [A85, argEnv]
  obtain ⟨a, b, c⟩ := w
  dsimp only [Wr.cells, isO]
  repeat' (first | (with_reducible first | refine W_seq ?_ | refine then_n ?_ | refine W_skip ?_ | refine W_ret ?_ | refine then_r ?_) | ((with_reducible refine s_reg ?_); intro K hK) | ((with_reducible refine k_nil ?_); (with_reducible apply s_nil hK); (· exact nmX); clear hK; clear K) | ((with_reducible refine k_mv ?_); (refine s_mv rfl ?_)) | ((with_reducible refine k_eql ?_); (first | (refine s_eql rfl rfl ?_) | (refine s_strEq rfl rfl ?_))) | ((with_reducible refine k_load ?_); (first | ((with_reducible apply s_loadV); (· rfl)) | ((with_reducible apply s_loadP); (· rfl); (· (exact hpX))))) | ((with_reducible refine k_faddr ?_); (first | ((with_reducible apply s_faddrV); (· rfl); (· rfl)) | ((with_reducible apply s_faddrP); (· rfl); (· rfl)))) | ((with_reducible refine k_box (dst := some 2) ?_); ((with_reducible apply s_box); (· rfl); (· rfl); intro k2 hk2; (try simp only [upd_none] at hk2))) | ((with_reducible refine k_br ?_); (first | (with_reducible first | refine Br_dec ?_ | refine Br_not ?_ | refine Br_eqF ?_ | refine Br_and ?_ | refine Br_or ?_ | refine Br_neg ?_ | refine Br_band ?_ | refine Br_bor ?_ | refine Br_beq ?_) | (refine Br_t (by first | with_reducible rfl | omega | assumption | rfl) ?_) | (refine Br_f (by first | omega | assumption | decide) ?_) | (with_reducible apply Br_sb <;> intro hbr <;> (first | subst hbr | simp only [hbr] | skip)) | (with_reducible apply Br_s <;> intro hbr))) | ((first | (with_reducible apply q_eqL) | (with_reducible apply q_eqO)); (first | exact liL | exact liO)))
  all_goals first | exact Fin_bt trivial rfl (by first | assumption | rfl | omega) | exact Fin_bf trivial rfl (by first | assumption | omega)
theorem pidx_c (o : List Wr) (hl : o.length ≤ 1000000) (i : Int) : PCon Try.prog 84 [.vs 3 (o.flatMap Wr.cells) o.length, .fn 85 [] [.vp [.int .i64 i] 0]] (.int .i64 (firstI (isO i) o)) := by
  refine A84p (by simp [A84]) ?_
  simp only [A84, argEnv]
  have hal := wrs_len o
  repeat' (first | (with_reducible first | refine W_seq ?_ | refine then_n ?_ | refine W_block ?_ | refine blk_n ?_ | refine blk_r ?_ | refine blk_e ?_ | refine W_skip ?_ | refine W_ret ?_ | refine then_r ?_ | refine W_exit ?_ | refine then_e ?_) | ((with_reducible refine s_reg ?_); intro K hK) | ((with_reducible refine k_nil ?_); (with_reducible apply s_nil hK); (· exact nmX); clear hK; clear K) | ((with_reducible refine k_mv ?_); (refine s_mv rfl ?_)) | ((with_reducible refine k_len ?_); (first | (refine s_len rfl rfl ?_) | ((with_reducible apply s_len); (· rfl); (· exact SlOwn.len (by assumption))) | ((with_reducible apply s_len); (· rfl); (· assumption)))))
  refine W_for o.length (fun j st => (∀ m (hm : m < j) (h : m < o.length), isO i o[m] = false) ∧ st = ⟨[(0, .vs 3 (o.flatMap Wr.cells) o.length), (1, .fn 85 [] [.vp [.int .i64 i] 0]), (7, .int .i64 o.length), (8, .int .i64 j)], fun _ => none⟩) ⟨fun j hj => by omega, rfl⟩ ?_ ?_
  · rintro j e' h' hi ⟨ht, he⟩
    cases he
    have hpi := isO_c o[j] i
    have hrow := wrr hi
    simp only [Wr.cells] at hpi
    cases hpb : isO i o[j] with
    | true =>
      rw [hpb] at hpi
      repeat' (first | (with_reducible first | refine W_seq ?_ | refine then_n ?_ | refine W_block ?_ | refine blk_n ?_ | refine blk_r ?_ | refine blk_e ?_ | refine W_skip ?_ | refine W_ret ?_ | refine then_r ?_ | refine W_exit ?_ | refine then_e ?_) | ((with_reducible refine s_reg ?_); intro K hK) | ((with_reducible refine k_nil ?_); (with_reducible apply s_nil hK); (· exact nmX); clear hK; clear K) | ((with_reducible refine k_cond ?_); (first | ((with_reducible apply s_condT); (· rfl); (· exact nmX)) | ((with_reducible apply s_condF); (· rfl); (· exact nmX)) | ((with_reducible apply s_condS); (· rfl); (· exact nmX); (· exact nmX)))) | ((with_reducible refine k_mv ?_); (refine s_mv rfl ?_)) | ((with_reducible refine k_lss ?_); (refine s_lss rfl rfl ?_)) | ((with_reducible refine k_iaddr ?_); (first | ((with_reducible apply s_iaddrV); (· rfl); (· rfl); (· (first | omega | exact ⟨rfl, by omega⟩ | skip))) | ((with_reducible apply s_iaddrO); (· rfl); (· rfl); (· (first | omega | exact ⟨rfl, by omega⟩ | skip)); (· (exact hpX))) | ((with_reducible apply s_iaddrSO); (· rfl); (· assumption); (· rfl); (· (first | omega | exact ⟨rfl, by omega⟩ | skip)); (· (first | (simp (disch := omega) only [w64, wu8, wu16, wu32, wu64, tm_nn, td_nn, fd_nn, Int.reduceAdd, Int.reduceSub, Int.reduceMul, Int.reduceDiv, Int.reduceMod, Int.reduceNeg, Int.reduceToNat, Int.toNat_natCast, Int.toNat_zero, Int.zero_add, Int.add_zero, Int.one_mul, Int.reducePow, Nat.mul_one, Nat.zero_add, Nat.add_zero, Nat.zero_mul, Nat.reduceAdd, Nat.reduceMul, Nat.reduceSub, Nat.min_eq_left, IntKind.bits, Nat.sub_zero, hrow]; try rfl; done) | rfl)); intro ks hks))) | ((with_reducible refine k_loadA ?_); (first | ((with_reducible apply s_loadAV); (· rfl); (· (first | exact Nat.le_of_ble_eq_true rfl | decide | omega | (simp; done) | (simp; omega) | skip))) | ((with_reducible apply s_loadAP); (· rfl); (· (exact hpX)); (· (first | exact Nat.le_of_ble_eq_true rfl | decide | omega | (simp; done) | (simp; omega) | skip))))) | ((with_reducible refine k_callT ?_); ((with_reducible apply s_callt); (· rfl); (· rfl); (· rfl))) | ((with_reducible refine k_con ?_); (first | ((with_reducible apply con_val (hpi)); (· (repeat (first | exact All2.nil | (apply All2.cons; (· first | exact Rd_w3 | exact rdX))))); (· rfl); (· exact fun _ => rfl)))) | ((with_reducible refine k_br ?_); (first | (with_reducible first | refine Br_dec ?_ | refine Br_not ?_ | refine Br_eqF ?_ | refine Br_and ?_ | refine Br_or ?_ | refine Br_neg ?_ | refine Br_band ?_ | refine Br_bor ?_ | refine Br_beq ?_) | (refine Br_t (by first | with_reducible rfl | omega | assumption | rfl) ?_) | (refine Br_f (by first | omega | assumption | decide) ?_) | (with_reducible apply Br_sb <;> intro hbr <;> (first | subst hbr | simp only [hbr] | skip)) | (with_reducible apply Br_s <;> intro hbr))) | ((first | (with_reducible apply q_eqI) | (with_reducible apply q_eqN)); (first | (simp (disch := omega) only [w64, wu8, wu16, wu32, wu64, tm_nn, td_nn, fd_nn, Int.reduceAdd, Int.reduceSub, Int.reduceMul, Int.reduceDiv, Int.reduceMod, Int.reduceNeg, Int.reduceToNat, Int.toNat_natCast, Int.toNat_zero, Int.zero_add, Int.add_zero, Int.one_mul, Int.reducePow, Nat.mul_one, Nat.zero_add, Nat.add_zero, Nat.zero_mul, Nat.reduceAdd, Nat.reduceMul, Nat.reduceSub, Nat.min_eq_left, IntKind.bits, Nat.sub_zero, hrow]; try rfl; done) | rfl)) | ((first | (with_reducible apply q_eqL) | (with_reducible apply q_eqO)); (first | (simp (disch := omega) only [upd_self, upd_ne, upd_upd, rep, splice, List.take_succ_cons, List.take_zero, List.drop_succ_cons, List.drop_zero, List.cons_append, List.nil_append, List.append_nil, List.length_cons, List.length_nil, List.reduceReplicate, List.flatten_cons, List.flatten_nil, Nat.reduceAdd, Nat.reduceMul, Nat.reduceSub, Nat.zero_add, Nat.add_zero, List.getElem?_cons_zero, List.getElem?_cons_succ, hrow]; try rfl; done) | rfl)))
      rw [firstI_at hi hpb (fun m hm => ht m hm (by omega))]
      first | exact Fin_flat trivial rfl rfl | (refine Fin_tup trivial rfl ?_ (Nat.le_of_ble_eq_true rfl); (repeat (first | exact All2.nil | (apply All2.cons; (· first | exact exc_n | exact exc_e | exact exc_v rfl rfl | exact exc_o upd_self rfl rfl)))); done) | (refine Fin_own trivial rfl upd_self ?_ (Nat.le_of_ble_eq_true rfl); (repeat (first | exact All2.nil | (apply All2.cons; (· first | exact exc_n | exact exc_e | exact exc_v rfl rfl | exact exc_o upd_self rfl rfl)))); done) | exact Fin_nil trivial rfl | exact Fin_sl trivial rfl upd_self rfl rfl
    | false =>
      rw [hpb] at hpi
      repeat' (first | (with_reducible first | refine W_seq ?_ | refine then_n ?_ | refine W_block ?_ | refine blk_n ?_ | refine blk_r ?_ | refine blk_e ?_ | refine W_skip ?_ | refine W_ret ?_ | refine then_r ?_ | refine W_exit ?_ | refine then_e ?_) | ((with_reducible refine s_reg ?_); intro K hK) | ((with_reducible refine k_nil ?_); (with_reducible apply s_nil hK); (· exact nmX); clear hK; clear K) | ((with_reducible refine k_cond ?_); (first | ((with_reducible apply s_condT); (· rfl); (· exact nmX)) | ((with_reducible apply s_condF); (· rfl); (· exact nmX)) | ((with_reducible apply s_condS); (· rfl); (· exact nmX); (· exact nmX)))) | ((with_reducible refine k_mv ?_); (refine s_mv rfl ?_)) | ((with_reducible refine k_lss ?_); (refine s_lss rfl rfl ?_)) | ((with_reducible refine k_iaddr ?_); (first | ((with_reducible apply s_iaddrV); (· rfl); (· rfl); (· (first | omega | exact ⟨rfl, by omega⟩ | skip))) | ((with_reducible apply s_iaddrO); (· rfl); (· rfl); (· (first | omega | exact ⟨rfl, by omega⟩ | skip)); (· (exact hpX))) | ((with_reducible apply s_iaddrSO); (· rfl); (· assumption); (· rfl); (· (first | omega | exact ⟨rfl, by omega⟩ | skip)); (· (first | (simp (disch := omega) only [w64, wu8, wu16, wu32, wu64, tm_nn, td_nn, fd_nn, Int.reduceAdd, Int.reduceSub, Int.reduceMul, Int.reduceDiv, Int.reduceMod, Int.reduceNeg, Int.reduceToNat, Int.toNat_natCast, Int.toNat_zero, Int.zero_add, Int.add_zero, Int.one_mul, Int.reducePow, Nat.mul_one, Nat.zero_add, Nat.add_zero, Nat.zero_mul, Nat.reduceAdd, Nat.reduceMul, Nat.reduceSub, Nat.min_eq_left, IntKind.bits, Nat.sub_zero, hrow]; try rfl; done) | rfl)); intro ks hks))) | ((with_reducible refine k_loadA ?_); (first | ((with_reducible apply s_loadAV); (· rfl); (· (first | exact Nat.le_of_ble_eq_true rfl | decide | omega | (simp; done) | (simp; omega) | skip))) | ((with_reducible apply s_loadAP); (· rfl); (· (exact hpX)); (· (first | exact Nat.le_of_ble_eq_true rfl | decide | omega | (simp; done) | (simp; omega) | skip))))) | ((with_reducible refine k_add ?_); ((with_reducible apply s_add); (· rfl); (· rfl))) | ((with_reducible refine k_callT ?_); ((with_reducible apply s_callt); (· rfl); (· rfl); (· rfl))) | ((with_reducible refine k_con ?_); (first | ((with_reducible apply con_val (hpi)); (· (repeat (first | exact All2.nil | (apply All2.cons; (· first | exact Rd_w3 | exact rdX))))); (· rfl); (· exact fun _ => rfl)))) | ((with_reducible refine k_br ?_); (first | (with_reducible first | refine Br_dec ?_ | refine Br_not ?_ | refine Br_eqF ?_ | refine Br_and ?_ | refine Br_or ?_ | refine Br_neg ?_ | refine Br_band ?_ | refine Br_bor ?_ | refine Br_beq ?_) | (refine Br_t (by first | with_reducible rfl | omega | assumption | rfl) ?_) | (refine Br_f (by first | omega | assumption | decide) ?_) | (with_reducible apply Br_sb <;> intro hbr <;> (first | subst hbr | simp only [hbr] | skip)) | (with_reducible apply Br_s <;> intro hbr))) | ((first | (with_reducible apply q_eqI) | (with_reducible apply q_eqN)); (first | (simp (disch := omega) only [w64, wu8, wu16, wu32, wu64, tm_nn, td_nn, fd_nn, Int.reduceAdd, Int.reduceSub, Int.reduceMul, Int.reduceDiv, Int.reduceMod, Int.reduceNeg, Int.reduceToNat, Int.toNat_natCast, Int.toNat_zero, Int.zero_add, Int.add_zero, Int.one_mul, Int.reducePow, Nat.mul_one, Nat.zero_add, Nat.add_zero, Nat.zero_mul, Nat.reduceAdd, Nat.reduceMul, Nat.reduceSub, Nat.min_eq_left, IntKind.bits, Nat.sub_zero, hrow]; try rfl; done) | rfl)) | ((first | (with_reducible apply q_eqL) | (with_reducible apply q_eqO)); (first | (simp (disch := omega) only [upd_self, upd_ne, upd_upd, rep, splice, List.take_succ_cons, List.take_zero, List.drop_succ_cons, List.drop_zero, List.cons_append, List.nil_append, List.append_nil, List.length_cons, List.length_nil, List.reduceReplicate, List.flatten_cons, List.flatten_nil, Nat.reduceAdd, Nat.reduceMul, Nat.reduceSub, Nat.zero_add, Nat.add_zero, List.getElem?_cons_zero, List.getElem?_cons_succ, hrow]; try rfl; done) | rfl)))
      refine ⟨fun m hm h => ?_, rfl⟩
      rcases Nat.lt_succ_iff_lt_or_eq.1 hm with h1 | rfl
      · exact ht m h1 h
      · exact hpb
  · rintro e' h' ⟨ht, he⟩
    cases he
    repeat' (first | (with_reducible first | refine W_seq ?_ | refine then_n ?_ | refine W_block ?_ | refine blk_n ?_ | refine blk_r ?_ | refine blk_e ?_ | refine W_skip ?_ | refine W_ret ?_ | refine then_r ?_ | refine W_exit ?_ | refine then_e ?_) | ((with_reducible refine s_reg ?_); intro K hK) | ((with_reducible refine k_nil ?_); (with_reducible apply s_nil hK); (· exact nmX); clear hK; clear K) | ((with_reducible refine k_cond ?_); (first | ((with_reducible apply s_condT); (· rfl); (· exact nmX)) | ((with_reducible apply s_condF); (· rfl); (· exact nmX)) | ((with_reducible apply s_condS); (· rfl); (· exact nmX); (· exact nmX)))) | ((with_reducible refine k_mv ?_); (refine s_mv rfl ?_)) | ((with_reducible refine k_lss ?_); (refine s_lss rfl rfl ?_)) | ((with_reducible refine k_br ?_); (first | (with_reducible first | refine Br_dec ?_ | refine Br_not ?_ | refine Br_eqF ?_ | refine Br_and ?_ | refine Br_or ?_ | refine Br_neg ?_ | refine Br_band ?_ | refine Br_bor ?_ | refine Br_beq ?_) | (refine Br_t (by first | with_reducible rfl | omega | assumption | rfl) ?_) | (refine Br_f (by first | omega | assumption | decide) ?_) | (with_reducible apply Br_sb <;> intro hbr <;> (first | subst hbr | simp only [hbr] | skip)) | (with_reducible apply Br_s <;> intro hbr))))
    rw [firstI_no (fun m hm => ht m hm hm)]
    first | exact Fin_flat trivial rfl rfl | (refine Fin_tup trivial rfl ?_ (Nat.le_of_ble_eq_true rfl); (repeat (first | exact All2.nil | (apply All2.cons; (· first | exact exc_n | exact exc_e | exact exc_v rfl rfl | exact exc_o upd_self rfl rfl)))); done) | (refine Fin_own trivial rfl upd_self ?_ (Nat.le_of_ble_eq_true rfl); (repeat (first | exact All2.nil | (apply All2.cons; (· first | exact exc_n | exact exc_e | exact exc_v rfl rfl | exact exc_o upd_self rfl rfl)))); done) | exact Fin_nil trivial rfl | exact Fin_sl trivial rfl upd_self rfl rfl
theorem find_con {h : Heap} {k kF kC : Nat} {dO : D} {s : Sd} (H : StH h k kF kC dO s) (hl : s.out.length ≤ 1000000) (i : Int) {Q : D → Heap → Prop} (hQ : ∀ h2, (∀ j c, h j = some c → h2 j = some c) → Q (.int .i64 (firstI (isO i) s.out)) h2) : Con Try.prog 77 [.pt k 0, .int .i64 i] h Q := by
  refine con_of_W mixed Try.func77 A77k A77c (by simp [A77]) ?_
  simp only [A77, argEnv]
  have hst := H.st
  have c1 := pidx_c s.out hl i
  repeat' (first | (with_reducible first | refine W_seq ?_ | refine then_n ?_ | refine W_skip ?_ | refine W_ret ?_ | refine then_r ?_) | ((with_reducible refine s_reg ?_); intro K hK) | ((with_reducible refine k_nil ?_); (with_reducible apply s_nil hK); (· exact nmX); clear hK; clear K) | ((with_reducible refine k_mv ?_); (refine s_mv rfl ?_)) | ((with_reducible refine k_load ?_); (first | ((with_reducible apply s_loadV); (· rfl)) | ((with_reducible apply s_loadP); (· rfl); (· (exact hpX))))) | ((with_reducible refine k_faddr ?_); (first | ((with_reducible apply s_faddrV); (· rfl); (· rfl)) | ((with_reducible apply s_faddrP); (· rfl); (· rfl)))) | ((with_reducible refine k_box (dst := some 3) ?_); ((with_reducible apply s_box); (· rfl); (· rfl); intro k3 hk3; (try simp only [upd_none] at hk3))) | ((with_reducible refine k_mkfn ?_); ((with_reducible apply s_mkfn); (· rfl); (· rfl))) | ((with_reducible refine k_nilck ?_); (first | ((with_reducible apply s_nilckV); (· rfl)) | ((with_reducible apply s_nilckP); (· rfl)) | ((with_reducible apply s_nilckF); (· rfl)))) | ((with_reducible refine k_callF ?_); (first | ((with_reducible apply s_call1); (· rfl)) | ((with_reducible apply s_calln); (· rfl)))) | ((with_reducible refine k_con ?_); (first | ((with_reducible apply con_val (c1)); (· (repeat (first | exact All2.nil | (apply All2.cons; (· first | exact H.outRd (by assumption) | exact (Rd_fnR All2.nil (All2.cons (Rd_ptR upd_self (All2.cons Rd_int All2.nil) (by simp)) All2.nil)) | exact rdX))))); (· rfl); (· exact fun _ => rfl)))) | ((first | (with_reducible apply q_eqL) | (with_reducible apply q_eqO)); (first | exact liL | exact liO)))
  all_goals first | (exfalso; omega) | skip
  exact ⟨trivial, _, rfl, hQ _ (upd_sub hk3)⟩
theorem latest_con {h : Heap} {k kF kC : Nat} {dO : D} {s : Sd} (H : StH h k kF kC dO s) (hl : s.firm.length ≤ 1000000) (hc : s.cache.length = s.firm.length) (hp : ∀ c, some c ∈ s.cache → 0 < c.length) (b : Nat) (hb : b < s.firm.length) : Con Try.prog 48 [.pt k 0, .int .i64 b] h (fun d h' => d = bD ((s.cache.getD b none).getD (s.firm.getD b [])) ∧ h' = h) := by
  refine con_of_W mixed Try.func48 A48k A48c (by simp [A48]) ?_
  simp only [A48, argEnv]
  have hst := H.st
  have hf := H.f
  have hcc := H.c
  have g1 : (s.firm.map bD)[b]? = some (bD (s.firm.getD b [])) := by rw [List.getElem?_map, List.getD_eq_getElem?_getD, List.getElem?_eq_getElem hb]; rfl
  cases hcb : s.cache.getD b none with
  | none =>
    have g2 : (s.cache.map cD)[b]? = some .nil := by rw [List.getElem?_map]; rw [List.getD_eq_getElem?_getD, List.getElem?_eq_getElem (by omega : b < s.cache.length)] at hcb; rw [List.getElem?_eq_getElem (by omega : b < s.cache.length)]; simp at hcb; rw [Option.map_some, hcb]; rfl
    generalize s.firm.getD b [] = x at *
    repeat' (first | (with_reducible first | refine W_seq ?_ | refine then_n ?_ | refine W_skip ?_ | refine W_ret ?_ | refine then_r ?_) | ((with_reducible refine s_reg ?_); intro K hK) | ((with_reducible refine k_nil ?_); (with_reducible apply s_nil hK); (· exact nmX); clear hK; clear K) | ((with_reducible refine k_cond ?_); (first | ((with_reducible apply s_condT); (· rfl); (· exact nmX)) | ((with_reducible apply s_condF); (· rfl); (· exact nmX)) | ((with_reducible apply s_condS); (· rfl); (· exact nmX); (· exact nmX)))) | ((with_reducible refine k_mv ?_); (refine s_mv rfl ?_)) | ((with_reducible refine k_iaddr ?_); (first | ((with_reducible apply s_iaddrV); (· rfl); (· rfl); (· (first | omega | exact ⟨rfl, by omega⟩ | skip))) | ((with_reducible apply s_iaddrO); (· rfl); (· rfl); (· (first | omega | exact ⟨rfl, by omega⟩ | skip)); (· (exact hpX))) | ((with_reducible apply s_iaddrSO); (· rfl); (· assumption); (· rfl); (· (first | omega | exact ⟨rfl, by omega⟩ | skip)); (· (first | (simp (disch := omega) only [w64, wu8, wu16, wu32, wu64, tm_nn, td_nn, fd_nn, Int.reduceAdd, Int.reduceSub, Int.reduceMul, Int.reduceDiv, Int.reduceMod, Int.reduceNeg, Int.reduceToNat, Int.toNat_natCast, Int.toNat_zero, Int.zero_add, Int.add_zero, Int.one_mul, Int.reducePow, Nat.mul_one, Nat.zero_add, Nat.add_zero, Nat.zero_mul, Nat.reduceAdd, Nat.reduceMul, Nat.reduceSub, Nat.min_eq_left, IntKind.bits, Nat.sub_zero, g1, g2]; try rfl; done) | rfl)); intro ks hks))) | ((with_reducible refine k_load ?_); (first | ((with_reducible apply s_loadV); (· rfl)) | ((with_reducible apply s_loadP); (· rfl); (· (exact hpX))))) | ((with_reducible refine k_faddr ?_); (first | ((with_reducible apply s_faddrV); (· rfl); (· rfl)) | ((with_reducible apply s_faddrP); (· rfl); (· rfl)))) | ((with_reducible refine k_eqN ?_); (first | ((with_reducible apply s_eqN); (· rfl); (· (first | rfl | exact isNil_vs (by omega) | exact isNil_sl (by omega))); (· rfl)) | ((with_reducible apply s_eqN0); (· rfl); intro b; cases b))) | ((with_reducible refine k_nilck ?_); (first | ((with_reducible apply s_nilckV); (· rfl)) | ((with_reducible apply s_nilckP); (· rfl)) | ((with_reducible apply s_nilckF); (· rfl)))) | ((first | (with_reducible apply q_eqI) | (with_reducible apply q_eqN)); (first | (simp (disch := omega) only [w64, wu8, wu16, wu32, wu64, tm_nn, td_nn, fd_nn, Int.reduceAdd, Int.reduceSub, Int.reduceMul, Int.reduceDiv, Int.reduceMod, Int.reduceNeg, Int.reduceToNat, Int.toNat_natCast, Int.toNat_zero, Int.zero_add, Int.add_zero, Int.one_mul, Int.reducePow, Nat.mul_one, Nat.zero_add, Nat.add_zero, Nat.zero_mul, Nat.reduceAdd, Nat.reduceMul, Nat.reduceSub, Nat.min_eq_left, IntKind.bits, Nat.sub_zero, g1, g2]; try rfl; done) | rfl)) | ((first | (with_reducible apply q_eqL) | (with_reducible apply q_eqO)); (first | (simp (disch := omega) only [upd_self, upd_ne, upd_upd, rep, splice, List.take_succ_cons, List.take_zero, List.drop_succ_cons, List.drop_zero, List.cons_append, List.nil_append, List.append_nil, List.length_cons, List.length_nil, List.reduceReplicate, List.flatten_cons, List.flatten_nil, Nat.reduceAdd, Nat.reduceMul, Nat.reduceSub, Nat.zero_add, Nat.add_zero, List.getElem?_cons_zero, List.getElem?_cons_succ, g1, g2]; try rfl; done) | rfl)))
    all_goals first | (exfalso; omega) | exact ⟨trivial, _, rfl, rfl, rfl⟩
  | some c =>
    have hp1 : 0 < c.length := hp c (by rw [List.getD_eq_getElem?_getD, List.getElem?_eq_getElem (by omega : b < s.cache.length)] at hcb; simp at hcb; rw [← hcb]; exact List.getElem_mem _)
    have g2 : (s.cache.map cD)[b]? = some (bD c) := by rw [List.getElem?_map]; rw [List.getD_eq_getElem?_getD, List.getElem?_eq_getElem (by omega : b < s.cache.length)] at hcb; rw [List.getElem?_eq_getElem (by omega : b < s.cache.length)]; simp at hcb; rw [Option.map_some, hcb]; rfl
    repeat' (first | (with_reducible first | refine W_seq ?_ | refine then_n ?_ | refine W_skip ?_ | refine W_ret ?_ | refine then_r ?_) | ((with_reducible refine s_reg ?_); intro K hK) | ((with_reducible refine k_nil ?_); (with_reducible apply s_nil hK); (· exact nmX); clear hK; clear K) | ((with_reducible refine k_cond ?_); (first | ((with_reducible apply s_condT); (· rfl); (· exact nmX)) | ((with_reducible apply s_condF); (· rfl); (· exact nmX)) | ((with_reducible apply s_condS); (· rfl); (· exact nmX); (· exact nmX)))) | ((with_reducible refine k_mv ?_); (refine s_mv rfl ?_)) | ((with_reducible refine k_iaddr ?_); (first | ((with_reducible apply s_iaddrV); (· rfl); (· rfl); (· (first | omega | exact ⟨rfl, by omega⟩ | skip))) | ((with_reducible apply s_iaddrO); (· rfl); (· rfl); (· (first | omega | exact ⟨rfl, by omega⟩ | skip)); (· (exact hpX))) | ((with_reducible apply s_iaddrSO); (· rfl); (· assumption); (· rfl); (· (first | omega | exact ⟨rfl, by omega⟩ | skip)); (· (first | (simp (disch := omega) only [w64, wu8, wu16, wu32, wu64, tm_nn, td_nn, fd_nn, Int.reduceAdd, Int.reduceSub, Int.reduceMul, Int.reduceDiv, Int.reduceMod, Int.reduceNeg, Int.reduceToNat, Int.toNat_natCast, Int.toNat_zero, Int.zero_add, Int.add_zero, Int.one_mul, Int.reducePow, Nat.mul_one, Nat.zero_add, Nat.add_zero, Nat.zero_mul, Nat.reduceAdd, Nat.reduceMul, Nat.reduceSub, Nat.min_eq_left, IntKind.bits, Nat.sub_zero, g1, g2]; try rfl; done) | rfl)); intro ks hks))) | ((with_reducible refine k_load ?_); (first | ((with_reducible apply s_loadV); (· rfl)) | ((with_reducible apply s_loadP); (· rfl); (· (exact hpX))))) | ((with_reducible refine k_faddr ?_); (first | ((with_reducible apply s_faddrV); (· rfl); (· rfl)) | ((with_reducible apply s_faddrP); (· rfl); (· rfl)))) | ((with_reducible refine k_eqN ?_); (first | ((with_reducible apply s_eqN); (· rfl); (· (first | rfl | exact isNil_vs (by omega) | exact isNil_sl (by omega))); (· rfl)) | ((with_reducible apply s_eqN0); (· rfl); intro b; cases b))) | ((with_reducible refine k_nilck ?_); (first | ((with_reducible apply s_nilckV); (· rfl)) | ((with_reducible apply s_nilckP); (· rfl)) | ((with_reducible apply s_nilckF); (· rfl)))) | ((first | (with_reducible apply q_eqI) | (with_reducible apply q_eqN)); (first | (simp (disch := omega) only [w64, wu8, wu16, wu32, wu64, tm_nn, td_nn, fd_nn, Int.reduceAdd, Int.reduceSub, Int.reduceMul, Int.reduceDiv, Int.reduceMod, Int.reduceNeg, Int.reduceToNat, Int.toNat_natCast, Int.toNat_zero, Int.zero_add, Int.add_zero, Int.one_mul, Int.reducePow, Nat.mul_one, Nat.zero_add, Nat.add_zero, Nat.zero_mul, Nat.reduceAdd, Nat.reduceMul, Nat.reduceSub, Nat.min_eq_left, IntKind.bits, Nat.sub_zero, g1, g2]; try rfl; done) | rfl)) | ((first | (with_reducible apply q_eqL) | (with_reducible apply q_eqO)); (first | (simp (disch := omega) only [upd_self, upd_ne, upd_upd, rep, splice, List.take_succ_cons, List.take_zero, List.drop_succ_cons, List.drop_zero, List.cons_append, List.nil_append, List.append_nil, List.length_cons, List.length_nil, List.reduceReplicate, List.flatten_cons, List.flatten_nil, Nat.reduceAdd, Nat.reduceMul, Nat.reduceSub, Nat.zero_add, Nat.add_zero, List.getElem?_cons_zero, List.getElem?_cons_succ, g1, g2]; try rfl; done) | rfl)))
    all_goals first | (exfalso; omega) | exact ⟨trivial, _, rfl, rfl, rfl⟩
end Go.Proofs.Ythblalidmmbcoaa
end
