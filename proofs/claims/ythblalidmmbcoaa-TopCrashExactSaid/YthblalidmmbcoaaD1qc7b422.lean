import Derived.Test.YthblalidmmbcoaaAmS
import Derived.Test.YthblalidmmbcoaaRows
import Derived.Test.YthblalidmmbcoaaAmZ3qbd265f
section
/- The compiled functions of this seat, in named pieces, each with the proof that it is what the compiler gives of the model's code. -/
set_option linter.unusedSimpArgs false
set_option linter.unusedVariables false
namespace Go.Proofs.Ythblalidmmbcoaa
open Go.AM
set_option maxRecDepth 100000
theorem mixed : Try.prog.follows .mixedOrders = true := by kernel_rfl
/- estovers/estoverslaw11.DurableChecks -/
/- estovers/estoverslaw11.DurableImages -/
/- estovers/estoverslaw11.DurableOrders -/
/- estovers/estoverslaw11.DurableOrdered -/
/- estovers/estoverslaw11.DurableContents -/
/- estovers/estoverslaw11.DurableFlushed -/
/- estovers/estoverslaw11.DurableKeeps -/
/- estovers/estoverslaw11.DurableAllows -/
/- estovers/estoverslaw11.DurableExact -/
/- estovers/estoverstop.TopCrashExact -/
abbrev A12r1 : List AIns := [⟨(some 2), (.mv (.cst (.bool false))), none⟩]
abbrev A12r2 : List AIns := [⟨(some 21), (.mv (.tmp 0)), none⟩, ⟨(some 22), (.len (.tmp 21)), none⟩, ⟨(some 23), (.bin .gtr (.tmp 22) (.cst (.int .i64 20))), none⟩]
abbrev A12r3 : List AIns := [⟨(some 24), (.call (.fnc 33) []), none⟩, ⟨(some 2), (.mv (.tmp 24)), none⟩]
abbrev A12r4 : List AIns := [⟨(some 26), (.mv (.tmp 0)), none⟩, ⟨(some 27), (.call (.fnc 34) [(.tmp 26)]), none⟩, ⟨(some 25), (.mv (.tmp 27)), none⟩, ⟨(some 28), (.extract 0 (.tmp 25)), none⟩, ⟨(some 29), (.extract 1 (.tmp 25)), none⟩, ⟨(some 30), (.extract 2 (.tmp 25)), none⟩, ⟨(some 31), (.extract 3 (.tmp 25)), none⟩, ⟨(some 3), (.alloc [(.int .i64 0), (.int .i64 0), .nil, .nil, .nil]), none⟩, ⟨none, (.store 5 (.tmp 3) (.tmp 28)), none⟩, ⟨(some 4), (.mv (.tmp 29)), none⟩, ⟨(some 5), (.mv (.tmp 30)), none⟩, ⟨(some 6), (.mv (.tmp 31)), none⟩]
abbrev A12r5 : List AIns := [⟨(some 32), (.load true 5 (.tmp 3)), none⟩, ⟨(some 33), (.call (.fnc 35) [(.tmp 32)]), none⟩, ⟨(some 7), (.mv (.tmp 33)), none⟩]
abbrev A12r6 : List AIns := [⟨(some 34), (.mv (.tmp 6)), none⟩, ⟨(some 35), (.un .not (.tmp 34)), none⟩, ⟨(some 36), (.mv (.tmp 35)), none⟩, ⟨(some 37), (.mv (.tmp 7)), (some (36, false))⟩, ⟨(some 38), (.bin .lss (.tmp 37) (.cst (.int .i64 0))), (some (36, false))⟩, ⟨(some 39), (.pick (.tmp 36) (.cst (.bool true)) (.tmp 38)), none⟩]
abbrev A12r7 : List AIns := [⟨(some 2), (.mv (.cst (.bool false))), none⟩]
abbrev A12r8 : List AIns := [⟨(some 41), (.mv (.tmp 4)), none⟩, ⟨(some 42), (.mv (.tmp 5)), none⟩, ⟨(some 43), (.call (.fnc 18) [(.tmp 41), (.tmp 42)]), none⟩, ⟨(some 40), (.mv (.tmp 43)), none⟩, ⟨(some 44), (.extract 0 (.tmp 40)), none⟩, ⟨(some 45), (.extract 1 (.tmp 40)), none⟩, ⟨(some 8), (.mv (.tmp 44)), none⟩, ⟨(some 9), (.mv (.tmp 45)), none⟩]
abbrev A12r9 : List AIns := [⟨(some 46), (.mv (.tmp 7)), none⟩, ⟨(some 47), (.bin .gtr (.tmp 46) (.cst (.int .i64 6))), none⟩, ⟨(some 48), (.mv (.tmp 47)), none⟩, ⟨(some 49), (.mv (.tmp 9)), (some (48, false))⟩, ⟨(some 50), (.bin .eql (.tmp 49) (.cst (.int .i64 9))), (some (48, false))⟩, ⟨(some 51), (.pick (.tmp 48) (.cst (.bool true)) (.tmp 50)), none⟩]
abbrev A12r10 : List AIns := [⟨(some 52), (.call (.fnc 33) []), none⟩, ⟨(some 2), (.mv (.tmp 52)), none⟩]
abbrev A12r11 : List AIns := [⟨(some 53), (.mv (.tmp 8)), none⟩, ⟨(some 54), (.len (.tmp 53)), none⟩, ⟨(some 55), (.mkslice 1 1 [(.bool false)] (.tmp 54) (.tmp 54)), none⟩, ⟨(some 10), (.mv (.tmp 55)), none⟩]
abbrev A12r12 : List AIns := [⟨(some 11), (.mv (.cst (.int .i64 0))), none⟩]
abbrev A12r14 : List AIns := [⟨(some 56), (.mv (.tmp 11)), none⟩, ⟨(some 57), (.mv (.tmp 7)), none⟩, ⟨(some 58), (.conv .u64 (.tmp 57)), none⟩, ⟨(some 59), (.bin .shl (.cst (.int .i64 1)) (.tmp 58)), none⟩, ⟨(some 60), (.bin .lss (.tmp 56) (.tmp 59)), none⟩]
abbrev A12r15 : List AIns := [⟨(some 12), (.mv (.cst .nil)), none⟩]
abbrev A12r16 : List AIns := [⟨(some 13), (.mv (.cst (.int .i64 0))), none⟩]
abbrev A12r18 : List AIns := [⟨(some 63), (.mv (.tmp 13)), none⟩, ⟨(some 64), (.mv (.tmp 7)), none⟩, ⟨(some 65), (.bin .lss (.tmp 63) (.tmp 64)), none⟩]
abbrev A12r19 : List AIns := [⟨(some 68), (.mv (.tmp 12)), none⟩, ⟨(some 69), (.mv (.tmp 11)), none⟩, ⟨(some 70), (.mv (.tmp 13)), none⟩, ⟨(some 71), (.conv .u64 (.tmp 70)), none⟩, ⟨(some 72), (.bin .shr (.tmp 69) (.tmp 71)), none⟩, ⟨(some 73), (.bin .rem (.tmp 72) (.cst (.int .i64 2))), none⟩, ⟨(some 74), (.bin .eql (.tmp 73) (.cst (.int .i64 1))), none⟩, ⟨(some 75), (.buildS 1 [(.bool false)] 1 [(0, (1, (.tmp 74)))]), none⟩, ⟨(some 76), (.append 1 1 (.tmp 68) (.tmp 75)), none⟩, ⟨(some 12), (.mv (.tmp 76)), none⟩]
abbrev A12r20 : List AIns := [⟨(some 66), (.mv (.tmp 13)), none⟩, ⟨(some 67), (.bin .add (.tmp 66) (.cst (.int .i64 1))), none⟩, ⟨(some 13), (.mv (.tmp 67)), none⟩]
abbrev A12l17 : ACode := (.seq (.seq (.reg A12r18 [3, 7, 8, 9, 10, 11, 12, 13, 65]) (.cond (.tmp 65) [3, 7, 8, 9, 10, 11, 12, 13] .skip [3, 7, 8, 9, 10, 11, 12] (.exit 2))) (.seq (.block 3 (.reg A12r19 [3, 7, 8, 9, 10, 11, 12, 13])) (.reg A12r20 [3, 7, 8, 9, 10, 11, 12, 13])))
abbrev A12r21 : List AIns := [⟨(some 78), (.load true 5 (.tmp 3)), none⟩, ⟨(some 79), (.mv (.tmp 12)), none⟩, ⟨(some 80), (.call (.fnc 36) [(.tmp 78), (.tmp 79)]), none⟩, ⟨(some 77), (.mv (.tmp 80)), none⟩, ⟨(some 81), (.extract 0 (.tmp 77)), none⟩, ⟨(some 82), (.extract 1 (.tmp 77)), none⟩, ⟨(some 14), (.alloc [(.int .i64 0), (.int .i64 0), .nil, .nil, .nil]), none⟩, ⟨none, (.store 5 (.tmp 14) (.tmp 81)), none⟩, ⟨(some 15), (.mv (.tmp 82)), none⟩]
abbrev A12r22 : List AIns := [⟨(some 83), (.mv (.tmp 15)), none⟩, ⟨(some 84), (.bin .neq (.tmp 83) (.cst (.int .i64 0))), none⟩, ⟨(some 85), (.mv (.tmp 84)), none⟩, ⟨(some 86), (.faddr 2 (.tmp 14)), (some (85, false))⟩, ⟨(some 87), (.load false 1 (.tmp 86)), (some (85, false))⟩, ⟨(some 88), (.len (.tmp 87)), (some (85, false))⟩, ⟨(some 89), (.bin .neq (.tmp 88) (.cst (.int .i64 3))), (some (85, false))⟩, ⟨(some 90), (.pick (.tmp 85) (.cst (.bool true)) (.tmp 89)), none⟩]
abbrev A12r23 : List AIns := [⟨(some 2), (.mv (.cst (.bool false))), none⟩]
abbrev A12r24 : List AIns := [⟨(some 16), (.mv (.cst (.bool false))), none⟩]
abbrev A12r25 : List AIns := [⟨(some 17), (.mv (.cst (.int .i64 0))), none⟩]
abbrev A12r27 : List AIns := [⟨(some 91), (.mv (.tmp 17)), none⟩, ⟨(some 92), (.mv (.tmp 8)), none⟩, ⟨(some 93), (.len (.tmp 92)), none⟩, ⟨(some 94), (.bin .lss (.tmp 91) (.tmp 93)), none⟩]
abbrev A12r28 : List AIns := [⟨(some 97), (.mv (.tmp 8)), none⟩, ⟨(some 98), (.mv (.tmp 17)), none⟩, ⟨(some 99), (.iaddr 1 (.tmp 97) (.tmp 98)), none⟩, ⟨(some 100), (.load false 1 (.tmp 99)), none⟩, ⟨(some 101), (.len (.tmp 100)), none⟩, ⟨(some 102), (.bin .eql (.tmp 101) (.cst (.int .i64 3))), none⟩, ⟨(some 18), (.mv (.tmp 102)), none⟩]
abbrev A12r29 : List AIns := [⟨(some 19), (.mv (.cst (.int .i64 0))), none⟩]
abbrev A12r31 : List AIns := [⟨(some 103), (.mv (.tmp 19)), none⟩, ⟨(some 104), (.bin .lss (.tmp 103) (.cst (.int .i64 3))), none⟩, ⟨(some 105), (.mv (.tmp 104)), none⟩, ⟨(some 106), (.mv (.tmp 18)), (some (105, true))⟩, ⟨(some 107), (.pick (.tmp 105) (.tmp 106) (.cst (.bool false))), none⟩]
abbrev A12d32 : List AIns := [⟨(some 110), (.mv (.tmp 8)), none⟩, ⟨(some 111), (.mv (.tmp 17)), none⟩, ⟨(some 112), (.iaddr 1 (.tmp 110) (.tmp 111)), none⟩, ⟨(some 113), (.load false 1 (.tmp 112)), none⟩, ⟨(some 114), (.mv (.tmp 19)), none⟩, ⟨(some 115), (.iaddr 1 (.tmp 113) (.tmp 114)), none⟩, ⟨(some 116), (.load false 1 (.tmp 115)), none⟩, ⟨(some 117), (.strB (.tmp 116)), none⟩, ⟨(some 118), (.faddr 2 (.tmp 14)), none⟩, ⟨(some 119), (.load false 1 (.tmp 118)), none⟩, ⟨(some 120), (.mv (.tmp 19)), none⟩, ⟨(some 121), (.iaddr 1 (.tmp 119) (.tmp 120)), none⟩, ⟨(some 122), (.load false 1 (.tmp 121)), none⟩, ⟨(some 123), (.strB (.tmp 122)), none⟩, ⟨(some 124), (.bin .eql (.tmp 117) (.tmp 123)), none⟩, ⟨(some 18), (.mv (.tmp 124)), none⟩]
abbrev A12c33 : ACode := (.dreg A12d32 [[], [], [0, 1], [0, 1, 2], [], [0, 1, 2, 3, 4], [0, 1, 2, 3, 4, 5], [0, 1, 2, 3, 4, 5, 6], [], [8], [], [8, 9, 10], [8, 9, 10, 11], [8, 9, 10, 11, 12], [0, 1, 2, 3, 4, 5, 6, 7, 8, 9, 10, 11, 12, 13], [0, 1, 2, 3, 4, 5, 6, 7, 8, 9, 10, 11, 12, 13, 14]] [3, 7, 8, 9, 10, 11, 14, 16, 17, 18, 19])
abbrev A12r34 : List AIns := [⟨(some 108), (.mv (.tmp 19)), none⟩, ⟨(some 109), (.bin .add (.tmp 108) (.cst (.int .i64 1))), none⟩, ⟨(some 19), (.mv (.tmp 109)), none⟩]
abbrev A12l30 : ACode := (.seq (.seq (.reg A12r31 [3, 7, 8, 9, 10, 11, 14, 16, 17, 18, 19, 107]) (.cond (.tmp 107) [3, 7, 8, 9, 10, 11, 14, 16, 17, 19] .skip [3, 7, 8, 9, 10, 11, 14, 16, 17, 18] (.exit 6))) (.seq (.block 7 A12c33) (.reg A12r34 [3, 7, 8, 9, 10, 11, 14, 16, 17, 18, 19])))
abbrev A12r35 : List AIns := [⟨(some 125), (.mv (.tmp 18)), none⟩]
abbrev A12r36 : List AIns := [⟨(some 126), (.mv (.tmp 10)), none⟩, ⟨(some 127), (.mv (.tmp 17)), none⟩, ⟨(some 128), (.iaddr 1 (.tmp 126) (.tmp 127)), none⟩, ⟨none, (.store 1 (.tmp 128) (.cst (.bool true))), none⟩]
abbrev A12r37 : List AIns := [⟨(some 16), (.mv (.cst (.bool true))), none⟩]
abbrev A12c38 : ACode := (.seq (.reg A12r36 [3, 7, 8, 9, 10, 11, 14, 17]) (.reg A12r37 [3, 7, 8, 9, 10, 11, 14, 16, 17]))
abbrev A12c39 : ACode := (.seq (.reg A12r28 [3, 7, 8, 9, 10, 11, 14, 16, 17, 18]) (.seq (.seq (.reg A12r29 [3, 7, 8, 9, 10, 11, 14, 16, 17, 18, 19]) (.block 6 (.loop A12l30))) (.seq (.reg A12r35 [3, 7, 8, 9, 10, 11, 14, 16, 17, 125]) (.cond (.tmp 125) [3, 7, 8, 9, 10, 11, 14, 17] A12c38 [3, 7, 8, 9, 10, 11, 14, 16, 17] .skip))))
abbrev A12r40 : List AIns := [⟨(some 95), (.mv (.tmp 17)), none⟩, ⟨(some 96), (.bin .add (.tmp 95) (.cst (.int .i64 1))), none⟩, ⟨(some 17), (.mv (.tmp 96)), none⟩]
abbrev A12l26 : ACode := (.seq (.seq (.reg A12r27 [3, 7, 8, 9, 10, 11, 14, 16, 17, 94]) (.cond (.tmp 94) [3, 7, 8, 9, 10, 11, 14, 16, 17] .skip [3, 7, 8, 9, 10, 11, 16] (.exit 4))) (.seq (.block 5 A12c39) (.reg A12r40 [3, 7, 8, 9, 10, 11, 14, 16, 17])))
abbrev A12r41 : List AIns := [⟨(some 129), (.mv (.tmp 16)), none⟩, ⟨(some 130), (.un .not (.tmp 129)), none⟩]
abbrev A12r42 : List AIns := [⟨(some 2), (.mv (.cst (.bool false))), none⟩]
abbrev A12c43 : ACode := (.seq (.reg A12r15 [3, 7, 8, 9, 10, 11, 12]) (.seq (.seq (.reg A12r16 [3, 7, 8, 9, 10, 11, 12, 13]) (.block 2 (.loop A12l17))) (.seq (.reg A12r21 [3, 7, 8, 9, 10, 11, 14, 15]) (.seq (.seq (.reg A12r22 [3, 7, 8, 9, 10, 11, 14, 90]) (.cond (.tmp 90) [] (.seq (.reg A12r23 [2]) .ret) [3, 7, 8, 9, 10, 11, 14] .skip)) (.seq (.reg A12r24 [3, 7, 8, 9, 10, 11, 14, 16]) (.seq (.seq (.reg A12r25 [3, 7, 8, 9, 10, 11, 14, 16, 17]) (.block 4 (.loop A12l26))) (.seq (.reg A12r41 [3, 7, 8, 9, 10, 11, 130]) (.cond (.tmp 130) [] (.seq (.reg A12r42 [2]) .ret) [3, 7, 8, 9, 10, 11] .skip))))))))
abbrev A12r44 : List AIns := [⟨(some 61), (.mv (.tmp 11)), none⟩, ⟨(some 62), (.bin .add (.tmp 61) (.cst (.int .i64 1))), none⟩, ⟨(some 11), (.mv (.tmp 62)), none⟩]
abbrev A12l13 : ACode := (.seq (.seq (.reg A12r14 [3, 7, 8, 9, 10, 11, 60]) (.cond (.tmp 60) [3, 7, 8, 9, 10, 11] .skip [9, 10] (.exit 0))) (.seq (.block 1 A12c43) (.reg A12r44 [3, 7, 8, 9, 10, 11])))
abbrev A12r45 : List AIns := [⟨(some 20), (.mv (.cst (.int .i64 0))), none⟩]
abbrev A12r47 : List AIns := [⟨(some 131), (.mv (.tmp 20)), none⟩, ⟨(some 132), (.mv (.tmp 10)), none⟩, ⟨(some 133), (.len (.tmp 132)), none⟩, ⟨(some 134), (.bin .lss (.tmp 131) (.tmp 133)), none⟩]
abbrev A12r48 : List AIns := [⟨(some 137), (.mv (.tmp 10)), none⟩, ⟨(some 138), (.mv (.tmp 20)), none⟩, ⟨(some 139), (.iaddr 1 (.tmp 137) (.tmp 138)), none⟩, ⟨(some 140), (.load false 1 (.tmp 139)), none⟩, ⟨(some 141), (.un .not (.tmp 140)), none⟩]
abbrev A12r49 : List AIns := [⟨(some 2), (.mv (.cst (.bool false))), none⟩]
abbrev A12c50 : ACode := (.seq (.reg A12r48 [9, 10, 20, 141]) (.cond (.tmp 141) [] (.seq (.reg A12r49 [2]) .ret) [9, 10, 20] .skip))
abbrev A12r51 : List AIns := [⟨(some 135), (.mv (.tmp 20)), none⟩, ⟨(some 136), (.bin .add (.tmp 135) (.cst (.int .i64 1))), none⟩, ⟨(some 20), (.mv (.tmp 136)), none⟩]
abbrev A12l46 : ACode := (.seq (.seq (.reg A12r47 [9, 10, 20, 134]) (.cond (.tmp 134) [9, 10, 20] .skip [9] (.exit 8))) (.seq (.block 9 A12c50) (.reg A12r51 [9, 10, 20])))
abbrev A12r52 : List AIns := [⟨(some 142), (.mv (.tmp 9)), none⟩, ⟨(some 143), (.bin .eql (.tmp 142) (.cst (.int .i64 0))), none⟩, ⟨(some 144), (.mv (.tmp 143)), none⟩, ⟨(some 145), (.call (.fnc 33) []), (some (144, true))⟩, ⟨(some 146), (.pick (.tmp 144) (.tmp 145) (.cst (.bool false))), none⟩, ⟨(some 2), (.mv (.tmp 146)), none⟩]
def A12 : AFun := ⟨147, 1, [(.tmp 2)], (.seq (.reg A12r1 [0]) (.seq (.seq (.reg A12r2 [0, 23]) (.cond (.tmp 23) [] (.seq (.reg A12r3 [2]) .ret) [0] .skip)) (.seq (.reg A12r4 [3, 4, 5, 6]) (.seq (.reg A12r5 [3, 4, 5, 6, 7]) (.seq (.seq (.reg A12r6 [3, 4, 5, 7, 39]) (.cond (.tmp 39) [] (.seq (.reg A12r7 [2]) .ret) [3, 4, 5, 7] .skip)) (.seq (.reg A12r8 [3, 7, 8, 9]) (.seq (.seq (.reg A12r9 [3, 7, 8, 9, 51]) (.cond (.tmp 51) [] (.seq (.reg A12r10 [2]) .ret) [3, 7, 8, 9] .skip)) (.seq (.reg A12r11 [3, 7, 8, 9, 10]) (.seq (.seq (.reg A12r12 [3, 7, 8, 9, 10, 11]) (.block 0 (.loop A12l13))) (.seq (.seq (.reg A12r45 [9, 10, 20]) (.block 8 (.loop A12l46))) (.seq (.reg A12r52 [2]) .ret)))))))))))⟩
theorem A12c : compF Try.prog Try.f12 = some A12 := by kernel_rfl
theorem A12k : Callable Try.prog 12 := fun a w => Try.call12 a w
theorem A12p {ds : List D} {r : D} (hl : ds.length ≤ A12.nt) (hw : W Try.prog A12.code (Fin A12.results r) ⟨argEnv 0 ds, fun _ => none⟩) : PCon Try.prog 12 ds r := pcon_of_W mixed Try.func12 A12k A12c hl hw
/- estovers/estoverstop.TopCrashAllowed -/
/- estovers/estoverslaw11.few -/
/- estovers/estoverslaw11.awake -/
/- estovers/durable.Check -/
/- estovers/estoversref11.Check -/
/- estovers/durable.Images -/
abbrev A18r1 : List AIns := [⟨(some 4), (.mv (.cst .nil)), none⟩, ⟨(some 5), (.mv (.cst (.int .i64 0))), none⟩]
abbrev A18r2 : List AIns := [⟨(some 15), (.mv (.tmp 0)), none⟩, ⟨(some 16), (.mv (.tmp 1)), none⟩, ⟨(some 17), (.call (.fnc 39) [(.tmp 15), (.tmp 16)]), none⟩, ⟨(some 14), (.mv (.tmp 17)), none⟩, ⟨(some 18), (.extract 0 (.tmp 14)), none⟩, ⟨(some 19), (.extract 1 (.tmp 14)), none⟩, ⟨(some 6), (.mv (.tmp 18)), none⟩, ⟨(some 7), (.mv (.tmp 19)), none⟩]
abbrev A18r3 : List AIns := [⟨(some 20), (.mv (.tmp 7)), none⟩, ⟨(some 21), (.bin .neq (.tmp 20) (.cst (.int .i64 0))), none⟩]
abbrev A18r4 : List AIns := [⟨(some 22), (.mv (.tmp 7)), none⟩, ⟨(some 4), (.mv (.cst .nil)), none⟩, ⟨(some 5), (.mv (.tmp 22)), none⟩]
abbrev A18r5 : List AIns := [⟨(some 23), (.mv (.tmp 0)), none⟩, ⟨(some 24), (.len (.tmp 23)), none⟩, ⟨(some 25), (.mkslice 1 24 [.nil] (.tmp 24) (.tmp 24)), none⟩, ⟨(some 8), (.alloc [.nil]), none⟩, ⟨none, (.store 1 (.tmp 8) (.tmp 25)), none⟩, ⟨(some 9), (.mv (.cst (.int .i64 1))), none⟩]
abbrev A18r6 : List AIns := [⟨(some 26), (.mv (.tmp 0)), none⟩, ⟨(some 27), (.len (.tmp 26)), none⟩, ⟨(some 28), (.mv (.cst (.int .i64 0))), none⟩]
abbrev A18r8 : List AIns := [⟨(some 29), (.bin .lss (.tmp 28) (.tmp 27)), none⟩]
abbrev A18r9 : List AIns := [⟨(some 30), (.mv (.tmp 28)), none⟩, ⟨(some 10), (.mv (.tmp 30)), none⟩]
abbrev A18d10 : List AIns := [⟨(some 31), (.load false 1 (.tmp 8)), none⟩, ⟨(some 32), (.mv (.tmp 10)), none⟩, ⟨(some 33), (.mv (.tmp 6)), none⟩, ⟨(some 34), (.mv (.tmp 10)), none⟩, ⟨(some 35), (.call (.fnc 41) [(.tmp 33), (.tmp 34)]), none⟩, ⟨(some 36), (.iaddr 1 (.tmp 31) (.tmp 32)), none⟩, ⟨none, (.store 1 (.tmp 36) (.tmp 35)), none⟩]
abbrev A18d10p : List AIns := [⟨(some 31), (.load false 1 (.tmp 8)), none⟩, ⟨(some 32), (.mv (.tmp 10)), none⟩, ⟨(some 33), (.mv (.tmp 6)), none⟩, ⟨(some 34), (.mv (.tmp 10)), none⟩, ⟨(some 35), (.call (.fnc 41) [(.tmp 33), (.tmp 34)]), none⟩, ⟨(some 36), (.iaddr 1 (.tmp 31) (.tmp 32)), none⟩]
abbrev A18r11 : List AIns := [⟨(some 37), (.mv (.tmp 9)), none⟩, ⟨(some 38), (.load false 1 (.tmp 8)), none⟩, ⟨(some 39), (.mv (.tmp 10)), none⟩, ⟨(some 40), (.iaddr 1 (.tmp 38) (.tmp 39)), none⟩, ⟨(some 41), (.load false 1 (.tmp 40)), none⟩, ⟨(some 42), (.len (.tmp 41)), none⟩, ⟨(some 43), (.bin .mul (.tmp 37) (.tmp 42)), none⟩, ⟨(some 9), (.mv (.tmp 43)), none⟩]
abbrev A18r12 : List AIns := [⟨(some 44), (.mv (.tmp 9)), none⟩, ⟨(some 45), (.bin .gtr (.tmp 44) (.cst (.int .i64 64))), none⟩]
abbrev A18r13 : List AIns := [⟨(some 4), (.mv (.cst .nil)), none⟩, ⟨(some 5), (.mv (.cst (.int .i64 9))), none⟩]
abbrev A18c14 : ACode := (.seq (.reg A18r9 [6, 8, 9, 10, 27, 28]) (.seq (.dreg A18d10 [[], [], [], [], [2, 3], [0, 1, 2, 3, 4], [0, 1, 2, 3, 4, 5]] [6, 8, 9, 10, 27, 28]) (.seq (.reg A18r11 [6, 8, 9, 27, 28]) (.seq (.reg A18r12 [6, 8, 9, 27, 28, 45]) (.cond (.tmp 45) [] (.seq (.reg A18r13 [4, 5]) .ret) [6, 8, 9, 27, 28] .skip)))))
abbrev A18r15 : List AIns := [⟨(some 46), (.bin .add (.tmp 28) (.cst (.int .i64 1))), none⟩, ⟨(some 28), (.mv (.tmp 46)), none⟩]
abbrev A18l7 : ACode := (.seq (.reg A18r8 [6, 8, 9, 27, 28, 29]) (.seq (.cond (.tmp 29) [6, 8, 9, 27, 28] .skip [8] (.exit 0)) (.seq (.block 1 A18c14) (.reg A18r15 [6, 8, 9, 27, 28]))))
abbrev A18r16 : List AIns := [⟨(some 11), (.alloc [.nil]), none⟩]
abbrev A18r17 : List AIns := [⟨(some 12), (.alloc [.nil]), none⟩]
abbrev A18r18 : List AIns := [⟨(some 13), (.alloc [.nilf]), none⟩]
abbrev A18r19 : List AIns := [⟨(some 47), (.mkfn 42 [] [(.tmp 8), (.tmp 11), (.tmp 12), (.tmp 13)]), none⟩, ⟨none, (.store 1 (.tmp 13) (.tmp 47)), none⟩]
abbrev A18r20 : List AIns := [⟨(some 48), (.load false 1 (.tmp 13)), none⟩, ⟨(some 49), (.call (.tmp 48) [(.cst (.int .i64 0))]), none⟩]
abbrev A18r21 : List AIns := [⟨(some 50), (.load false 1 (.tmp 11)), none⟩, ⟨(some 4), (.mv (.tmp 50)), none⟩, ⟨(some 5), (.mv (.cst (.int .i64 0))), none⟩]
def A18 : AFun := ⟨51, 2, [(.tmp 4), (.tmp 5)], (.seq (.reg A18r1 [0, 1]) (.seq (.reg A18r2 [0, 6, 7]) (.seq (.seq (.reg A18r3 [0, 6, 7, 21]) (.cond (.tmp 21) [7] (.seq (.reg A18r4 [4, 5]) .ret) [0, 6] .skip)) (.seq (.reg A18r5 [0, 6, 8, 9]) (.seq (.seq (.reg A18r6 [6, 8, 9, 27, 28]) (.block 0 (.loop A18l7))) (.seq (.reg A18r16 [8, 11]) (.seq (.reg A18r17 [8, 11, 12]) (.seq (.reg A18r18 [8, 11, 12, 13]) (.seq (.reg A18r19 [11, 13]) (.seq (.reg A18r20 [11]) (.seq (.reg A18r21 [4, 5]) .ret)))))))))))⟩
theorem A18c : compF Try.prog Try.f18 = some A18 := by kernel_rfl
theorem A18k : Callable Try.prog 18 := fun a w => Try.call18 a w
theorem A18p {ds : List D} {r : D} (hl : ds.length ≤ A18.nt) (hw : W Try.prog A18.code (Fin A18.results r) ⟨argEnv 0 ds, fun _ => none⟩) : PCon Try.prog 18 ds r := pcon_of_W mixed Try.func18 A18k A18c hl hw
/- estovers/estoversref11.Images -/
/- estovers/estoversref11.Same -/
/- estovers/durable.Ordered -/
/- estovers/estoversref11.Ordered -/
/- estovers/durable.Choices -/
/- estovers/estoverslaw11.settled -/
/- estovers/durable.Latest -/
/- estovers/durable.Durable -/
/- estovers/estoversref11.Latest -/
/- estovers/estoversref11.Durable -/
/- estovers/estoversref11.Choices -/
/- estovers/estoversref11.Few -/
/- estovers/durable.Allows -/
/- estovers/estoversref11.Allows -/
/- estovers/estoverstop.dDriven -/
abbrev A33r1 : List AIns := [⟨(some 0), (.mv (.cst (.bool false))), none⟩]
abbrev A33r2 : List AIns := [⟨(some 10), (.build [(.int .u8 0), (.int .u8 0), (.int .u8 0), (.int .u8 0)] [(0, (1, (.cst (.int .u8 0)))), (1, (1, (.cst (.int .u8 1)))), (2, (1, (.cst (.int .u8 4))))]), none⟩, ⟨(some 11), (.build [(.int .u8 0), (.int .u8 0), (.int .u8 0), (.int .u8 0)] [(0, (1, (.cst (.int .u8 2))))]), none⟩, ⟨(some 12), (.build [(.int .u8 0), (.int .u8 0), (.int .u8 0), (.int .u8 0)] [(0, (1, (.cst (.int .u8 0)))), (1, (1, (.cst (.int .u8 1)))), (2, (1, (.cst (.int .u8 5))))]), none⟩, ⟨(some 13), (.buildS 4 [(.int .u8 0), (.int .u8 0), (.int .u8 0), (.int .u8 0)] 3 [(0, (4, (.tmp 10))), (4, (4, (.tmp 11))), (8, (4, (.tmp 12)))]), none⟩, ⟨(some 14), (.call (.fnc 34) [(.tmp 13)]), none⟩, ⟨(some 9), (.mv (.tmp 14)), none⟩, ⟨(some 15), (.extract 0 (.tmp 9)), none⟩, ⟨(some 16), (.extract 1 (.tmp 9)), none⟩, ⟨(some 17), (.extract 2 (.tmp 9)), none⟩, ⟨(some 18), (.extract 3 (.tmp 9)), none⟩, ⟨(some 1), (.alloc [(.int .i64 0), (.int .i64 0), .nil, .nil, .nil]), none⟩, ⟨none, (.store 5 (.tmp 1) (.tmp 15)), none⟩, ⟨(some 2), (.mv (.tmp 16)), none⟩, ⟨(some 3), (.mv (.tmp 17)), none⟩, ⟨(some 4), (.mv (.tmp 18)), none⟩]
abbrev A33r3 : List AIns := [⟨(some 20), (.mv (.tmp 2)), none⟩, ⟨(some 21), (.mv (.tmp 3)), none⟩, ⟨(some 22), (.call (.fnc 18) [(.tmp 20), (.tmp 21)]), none⟩, ⟨(some 19), (.mv (.tmp 22)), none⟩, ⟨(some 23), (.extract 0 (.tmp 19)), none⟩, ⟨(some 24), (.extract 1 (.tmp 19)), none⟩, ⟨(some 5), (.mv (.tmp 23)), none⟩, ⟨(some 6), (.mv (.tmp 24)), none⟩]
abbrev A33r4 : List AIns := [⟨(some 26), (.load true 5 (.tmp 1)), none⟩, ⟨(some 27), (.buildS 1 [(.bool false)] 2 [(0, (1, (.cst (.bool false)))), (1, (1, (.cst (.bool true))))]), none⟩, ⟨(some 28), (.call (.fnc 36) [(.tmp 26), (.tmp 27)]), none⟩, ⟨(some 25), (.mv (.tmp 28)), none⟩, ⟨(some 29), (.extract 0 (.tmp 25)), none⟩, ⟨(some 30), (.extract 1 (.tmp 25)), none⟩, ⟨(some 7), (.alloc [(.int .i64 0), (.int .i64 0), .nil, .nil, .nil]), none⟩, ⟨none, (.store 5 (.tmp 7) (.tmp 29)), none⟩, ⟨(some 8), (.mv (.tmp 30)), none⟩]
abbrev A33d5 : List AIns := [⟨(some 31), (.mv (.tmp 4)), none⟩, ⟨(some 32), (.mv (.tmp 31)), none⟩, ⟨(some 33), (.mv (.tmp 6)), (some (32, true))⟩, ⟨(some 34), (.bin .eql (.tmp 33) (.cst (.int .i64 0))), (some (32, true))⟩, ⟨(some 35), (.pick (.tmp 32) (.tmp 34) (.cst (.bool false))), none⟩, ⟨(some 36), (.mv (.tmp 35)), none⟩, ⟨(some 37), (.mv (.tmp 8)), (some (36, true))⟩, ⟨(some 38), (.bin .eql (.tmp 37) (.cst (.int .i64 0))), (some (36, true))⟩, ⟨(some 39), (.pick (.tmp 36) (.tmp 38) (.cst (.bool false))), none⟩, ⟨(some 40), (.mv (.tmp 39)), none⟩, ⟨(some 41), (.mv (.tmp 5)), (some (40, true))⟩, ⟨(some 42), (.len (.tmp 41)), (some (40, true))⟩, ⟨(some 43), (.bin .eql (.tmp 42) (.cst (.int .i64 3))), (some (40, true))⟩, ⟨(some 44), (.pick (.tmp 40) (.tmp 43) (.cst (.bool false))), none⟩, ⟨(some 45), (.mv (.tmp 44)), none⟩, ⟨(some 46), (.mv (.tmp 3)), (some (45, true))⟩, ⟨(some 47), (.len (.tmp 46)), (some (45, true))⟩, ⟨(some 48), (.bin .eql (.tmp 47) (.cst (.int .i64 3))), (some (45, true))⟩, ⟨(some 49), (.pick (.tmp 45) (.tmp 48) (.cst (.bool false))), none⟩, ⟨(some 50), (.mv (.tmp 49)), none⟩, ⟨(some 51), (.faddr 2 (.tmp 7)), (some (50, true))⟩, ⟨(some 52), (.load false 1 (.tmp 51)), (some (50, true))⟩, ⟨(some 53), (.len (.tmp 52)), (some (50, true))⟩, ⟨(some 54), (.bin .eql (.tmp 53) (.cst (.int .i64 3))), (some (50, true))⟩, ⟨(some 55), (.pick (.tmp 50) (.tmp 54) (.cst (.bool false))), none⟩, ⟨(some 56), (.mv (.tmp 55)), none⟩, ⟨(some 57), (.faddr 2 (.tmp 7)), (some (56, true))⟩, ⟨(some 58), (.load false 1 (.tmp 57)), (some (56, true))⟩, ⟨(some 59), (.iaddr 1 (.tmp 58) (.cst (.int .i64 1))), (some (56, true))⟩, ⟨(some 60), (.load false 1 (.tmp 59)), (some (56, true))⟩, ⟨(some 61), (.strB (.tmp 60)), (some (56, true))⟩, ⟨(some 62), (.call (.fnc 55) [(.cst (.int .u8 6))]), (some (56, true))⟩, ⟨(some 63), (.strB (.tmp 62)), (some (56, true))⟩, ⟨(some 64), (.bin .eql (.tmp 61) (.tmp 63)), (some (56, true))⟩, ⟨(some 65), (.pick (.tmp 56) (.tmp 64) (.cst (.bool false))), none⟩, ⟨(some 0), (.mv (.tmp 65)), none⟩]
def A33 : AFun := ⟨66, 0, [(.tmp 0)], (.seq (.reg A33r1 []) (.seq (.reg A33r2 [1, 2, 3, 4]) (.seq (.reg A33r3 [1, 3, 4, 5, 6]) (.seq (.reg A33r4 [3, 4, 5, 6, 7, 8]) (.seq (.dreg A33d5 [[], [0], [0, 1], [0, 1, 2], [0, 1, 2, 3], [0, 1, 2, 3, 4], [0, 1, 2, 3, 4, 5], [0, 1, 2, 3, 4, 5, 6], [0, 1, 2, 3, 4, 5, 6, 7], [0, 1, 2, 3, 4, 5, 6, 7, 8], [0, 1, 2, 3, 4, 5, 6, 7, 8, 9], [0, 1, 2, 3, 4, 5, 6, 7, 8, 9, 10], [0, 1, 2, 3, 4, 5, 6, 7, 8, 9, 10, 11], [0, 1, 2, 3, 4, 5, 6, 7, 8, 9, 10, 11, 12], [0, 1, 2, 3, 4, 5, 6, 7, 8, 9, 10, 11, 12, 13], [0, 1, 2, 3, 4, 5, 6, 7, 8, 9, 10, 11, 12, 13, 14], [0, 1, 2, 3, 4, 5, 6, 7, 8, 9, 10, 11, 12, 13, 14, 15], [0, 1, 2, 3, 4, 5, 6, 7, 8, 9, 10, 11, 12, 13, 14, 15, 16], [0, 1, 2, 3, 4, 5, 6, 7, 8, 9, 10, 11, 12, 13, 14, 15, 16, 17], [0, 1, 2, 3, 4, 5, 6, 7, 8, 9, 10, 11, 12, 13, 14, 15, 16, 17, 18], [0, 1, 2, 3, 4, 5, 6, 7, 8, 9, 10, 11, 12, 13, 14, 15, 16, 17, 18, 19], [0, 1, 2, 3, 4, 5, 6, 7, 8, 9, 10, 11, 12, 13, 14, 15, 16, 17, 18, 19, 20], [0, 1, 2, 3, 4, 5, 6, 7, 8, 9, 10, 11, 12, 13, 14, 15, 16, 17, 18, 19, 20, 21], [0, 1, 2, 3, 4, 5, 6, 7, 8, 9, 10, 11, 12, 13, 14, 15, 16, 17, 18, 19, 20, 21, 22], [0, 1, 2, 3, 4, 5, 6, 7, 8, 9, 10, 11, 12, 13, 14, 15, 16, 17, 18, 19, 20, 21, 22, 23], [0, 1, 2, 3, 4, 5, 6, 7, 8, 9, 10, 11, 12, 13, 14, 15, 16, 17, 18, 19, 20, 21, 22, 23, 24], [0, 1, 2, 3, 4, 5, 6, 7, 8, 9, 10, 11, 12, 13, 14, 15, 16, 17, 18, 19, 20, 21, 22, 23, 24, 25], [0, 1, 2, 3, 4, 5, 6, 7, 8, 9, 10, 11, 12, 13, 14, 15, 16, 17, 18, 19, 20, 21, 22, 23, 24, 25, 26], [0, 1, 2, 3, 4, 5, 6, 7, 8, 9, 10, 11, 12, 13, 14, 15, 16, 17, 18, 19, 20, 21, 22, 23, 24, 25, 26, 27], [0, 1, 2, 3, 4, 5, 6, 7, 8, 9, 10, 11, 12, 13, 14, 15, 16, 17, 18, 19, 20, 21, 22, 23, 24, 25, 26, 27, 28], [0, 1, 2, 3, 4, 5, 6, 7, 8, 9, 10, 11, 12, 13, 14, 15, 16, 17, 18, 19, 20, 21, 22, 23, 24, 25, 26, 27, 28, 29], [0, 1, 2, 3, 4, 5, 6, 7, 8, 9, 10, 11, 12, 13, 14, 15, 16, 17, 18, 19, 20, 21, 22, 23, 24, 25], [0, 1, 2, 3, 4, 5, 6, 7, 8, 9, 10, 11, 12, 13, 14, 15, 16, 17, 18, 19, 20, 21, 22, 23, 24, 25, 31], [0, 1, 2, 3, 4, 5, 6, 7, 8, 9, 10, 11, 12, 13, 14, 15, 16, 17, 18, 19, 20, 21, 22, 23, 24, 25, 26, 27, 28, 29, 30, 31, 32], [0, 1, 2, 3, 4, 5, 6, 7, 8, 9, 10, 11, 12, 13, 14, 15, 16, 17, 18, 19, 20, 21, 22, 23, 24, 25, 26, 27, 28, 29, 30, 31, 32, 33], [0, 1, 2, 3, 4, 5, 6, 7, 8, 9, 10, 11, 12, 13, 14, 15, 16, 17, 18, 19, 20, 21, 22, 23, 24, 25, 26, 27, 28, 29, 30, 31, 32, 33, 34]] [0]) .ret)))))⟩
theorem A33c : compF Try.prog Try.f33 = some A33 := by kernel_rfl
theorem A33k : Callable Try.prog 33 := fun a w => Try.call33 a w
theorem A33p {ds : List D} {r : D} (hl : ds.length ≤ A33.nt) (hw : W Try.prog A33.code (Fin A33.results r) ⟨argEnv 0 ds, fun _ => none⟩) : PCon Try.prog 33 ds r := pcon_of_W mixed Try.func33 A33k A33c hl hw
/- estovers/estoverstop.dDrive -/
abbrev A34r1 : List AIns := [⟨(some 2), (.alloc [(.int .i64 0), (.int .i64 0), .nil, .nil, .nil]), none⟩, ⟨(some 3), (.mv (.cst .nil)), none⟩, ⟨(some 4), (.mv (.cst .nil)), none⟩, ⟨(some 5), (.mv (.cst (.bool false))), none⟩]
abbrev A34r2 : List AIns := [⟨(some 24), (.call (.fnc 55) [(.cst (.int .u8 0))]), none⟩, ⟨(some 25), (.call (.fnc 55) [(.cst (.int .u8 0))]), none⟩, ⟨(some 26), (.call (.fnc 55) [(.cst (.int .u8 0))]), none⟩, ⟨(some 27), (.buildS 1 [.nil] 3 [(0, (1, (.tmp 24))), (1, (1, (.tmp 25))), (2, (1, (.tmp 26)))]), none⟩, ⟨(some 6), (.mv (.tmp 27)), none⟩]
abbrev A34r3 : List AIns := [⟨(some 29), (.mv (.tmp 6)), none⟩, ⟨(some 30), (.call (.fnc 56) [(.cst (.int .i64 4)), (.tmp 29)]), none⟩, ⟨(some 28), (.mv (.tmp 30)), none⟩, ⟨(some 31), (.extract 0 (.tmp 28)), none⟩, ⟨(some 32), (.extract 1 (.tmp 28)), none⟩, ⟨(some 7), (.alloc [(.int .i64 0), (.int .i64 0), .nil, .nil, .nil]), none⟩, ⟨none, (.store 5 (.tmp 7) (.tmp 31)), none⟩, ⟨(some 8), (.mv (.tmp 32)), none⟩]
abbrev A34r4 : List AIns := [⟨(some 33), (.mv (.tmp 8)), none⟩, ⟨(some 34), (.bin .neq (.tmp 33) (.cst (.int .i64 0))), none⟩]
abbrev A34r5 : List AIns := [⟨(some 35), (.load true 5 (.tmp 7)), none⟩, ⟨none, (.store 5 (.tmp 2) (.tmp 35)), none⟩, ⟨(some 3), (.mv (.cst .nil)), none⟩, ⟨(some 4), (.mv (.cst .nil)), none⟩, ⟨(some 5), (.mv (.cst (.bool false))), none⟩]
abbrev A34r6 : List AIns := [⟨(some 9), (.mv (.cst .nil)), none⟩]
abbrev A34r7 : List AIns := [⟨(some 10), (.mv (.cst (.int .i64 0))), none⟩]
abbrev A34r9 : List AIns := [⟨(some 36), (.mv (.tmp 10)), none⟩, ⟨(some 37), (.mv (.tmp 0)), none⟩, ⟨(some 38), (.len (.tmp 37)), none⟩, ⟨(some 39), (.bin .lss (.tmp 36) (.tmp 38)), none⟩]
abbrev A34r10 : List AIns := [⟨(some 42), (.mv (.tmp 0)), none⟩, ⟨(some 43), (.mv (.tmp 10)), none⟩, ⟨(some 44), (.iaddr 4 (.tmp 42) (.tmp 43)), none⟩, ⟨(some 45), (.load true 4 (.tmp 44)), none⟩, ⟨(some 11), (.alloc [(.int .u8 0), (.int .u8 0), (.int .u8 0), (.int .u8 0)]), none⟩, ⟨none, (.store 4 (.tmp 11) (.tmp 45)), none⟩]
abbrev A34r11 : List AIns := [⟨(some 46), (.faddr 0 (.tmp 11)), none⟩, ⟨(some 47), (.load false 1 (.tmp 46)), none⟩, ⟨(some 48), (.bin .rem (.tmp 47) (.cst (.int .u8 4))), none⟩]
abbrev A34r12 : List AIns := [⟨(some 80), (.bin .eql (.tmp 48) (.cst (.int .u8 0))), none⟩, ⟨(some 79), (.mv (.tmp 80)), none⟩]
abbrev A34d13 : List AIns := [⟨(some 81), (.faddr 1 (.tmp 11)), none⟩, ⟨(some 82), (.load false 1 (.tmp 81)), none⟩, ⟨(some 83), (.conv .i64 (.tmp 82)), none⟩, ⟨(some 84), (.bin .rem (.tmp 83) (.cst (.int .i64 3))), none⟩, ⟨(some 85), (.faddr 2 (.tmp 11)), none⟩, ⟨(some 86), (.load false 1 (.tmp 85)), none⟩, ⟨(some 87), (.bin .rem (.tmp 86) (.cst (.int .u8 9))), none⟩, ⟨(some 88), (.bin .add (.cst (.int .u8 1)) (.tmp 87)), none⟩, ⟨(some 89), (.call (.fnc 55) [(.tmp 88)]), none⟩, ⟨(some 12), (.mv (.tmp 84)), none⟩, ⟨(some 13), (.mv (.tmp 89)), none⟩]
abbrev A34r14 : List AIns := [⟨(some 91), (.load true 5 (.tmp 7)), none⟩, ⟨(some 92), (.mv (.tmp 12)), none⟩, ⟨(some 93), (.mv (.tmp 13)), none⟩, ⟨(some 94), (.call (.fnc 57) [(.tmp 91), (.cst (.int .i64 2)), (.tmp 92), (.tmp 93)]), none⟩, ⟨(some 90), (.mv (.tmp 94)), none⟩, ⟨(some 95), (.extract 0 (.tmp 90)), none⟩, ⟨(some 96), (.extract 1 (.tmp 90)), none⟩, ⟨(some 97), (.extract 2 (.tmp 90)), none⟩, ⟨(some 14), (.alloc [(.int .i64 0), (.int .i64 0), .nil, .nil, .nil]), none⟩, ⟨none, (.store 5 (.tmp 14) (.tmp 95)), none⟩, ⟨(some 15), (.mv (.tmp 96)), none⟩, ⟨(some 16), (.mv (.tmp 97)), none⟩]
abbrev A34r15 : List AIns := [⟨(some 98), (.mv (.tmp 16)), none⟩, ⟨(some 99), (.bin .eql (.tmp 98) (.cst (.int .i64 0))), none⟩]
abbrev A34r16 : List AIns := [⟨(some 100), (.load true 5 (.tmp 14)), none⟩, ⟨none, (.store 5 (.tmp 7) (.tmp 100)), none⟩]
abbrev A34r17 : List AIns := [⟨(some 101), (.mv (.tmp 9)), none⟩, ⟨(some 102), (.mv (.tmp 15)), none⟩, ⟨(some 103), (.mv (.tmp 12)), none⟩, ⟨(some 104), (.mv (.tmp 13)), none⟩, ⟨(some 105), (.build [(.int .i64 0), (.int .i64 0), (.int .i64 0), .nil] [(0, (1, (.cst (.int .i64 1)))), (1, (1, (.tmp 102))), (2, (1, (.tmp 103))), (3, (1, (.tmp 104)))]), none⟩, ⟨(some 106), (.buildS 4 [(.int .i64 0), (.int .i64 0), (.int .i64 0), .nil] 1 [(0, (4, (.tmp 105)))]), none⟩, ⟨(some 107), (.append 4 48 (.tmp 101) (.tmp 106)), none⟩, ⟨(some 9), (.mv (.tmp 107)), none⟩]
abbrev A34c18 : ACode := (.seq (.reg A34r16 [0, 2, 6, 7, 9, 10, 12, 13, 15]) (.reg A34r17 [0, 2, 6, 7, 9, 10]))
abbrev A34c19 : ACode := (.seq (.dreg A34d13 [[], [0], [0, 1], [0, 1, 2], [], [4], [4, 5], [4, 5, 6], [4, 5, 6, 7], [0, 1, 2, 3, 4, 5, 6, 7, 8], [0, 1, 2, 3, 4, 5, 6, 7, 8, 9]] [0, 2, 6, 7, 9, 10, 12, 13]) (.seq (.reg A34r14 [0, 2, 6, 7, 9, 10, 12, 13, 14, 15, 16]) (.seq (.reg A34r15 [0, 2, 6, 7, 9, 10, 12, 13, 14, 15, 99]) (.cond (.tmp 99) [0, 2, 6, 7, 9, 10, 12, 13, 14, 15] A34c18 [0, 2, 6, 7, 9, 10] .skip))))
abbrev A34r20 : List AIns := [⟨(some 109), (.bin .eql (.tmp 48) (.cst (.int .u8 1))), none⟩, ⟨(some 108), (.mv (.tmp 109)), none⟩]
abbrev A34r21 : List AIns := [⟨(some 111), (.load true 5 (.tmp 7)), none⟩, ⟨(some 112), (.call (.fnc 57) [(.tmp 111), (.cst (.int .i64 3)), (.cst (.int .i64 0)), (.cst .nil)]), none⟩, ⟨(some 110), (.mv (.tmp 112)), none⟩, ⟨(some 113), (.extract 0 (.tmp 110)), none⟩, ⟨(some 114), (.extract 1 (.tmp 110)), none⟩, ⟨(some 115), (.extract 2 (.tmp 110)), none⟩, ⟨(some 17), (.alloc [(.int .i64 0), (.int .i64 0), .nil, .nil, .nil]), none⟩, ⟨none, (.store 5 (.tmp 17) (.tmp 113)), none⟩, ⟨(some 18), (.mv (.tmp 114)), none⟩, ⟨(some 19), (.mv (.tmp 115)), none⟩]
abbrev A34r22 : List AIns := [⟨(some 116), (.mv (.tmp 19)), none⟩, ⟨(some 117), (.bin .eql (.tmp 116) (.cst (.int .i64 0))), none⟩]
abbrev A34r23 : List AIns := [⟨(some 118), (.load true 5 (.tmp 17)), none⟩, ⟨none, (.store 5 (.tmp 7) (.tmp 118)), none⟩]
abbrev A34c24 : ACode := (.seq (.reg A34r21 [0, 2, 6, 7, 9, 10, 17, 19]) (.seq (.reg A34r22 [0, 2, 6, 7, 9, 10, 17, 117]) (.cond (.tmp 117) [0, 2, 6, 7, 9, 10, 17] (.reg A34r23 [0, 2, 6, 7, 9, 10]) [0, 2, 6, 7, 9, 10] .skip)))
abbrev A34r25 : List AIns := [⟨(some 49), (.faddr 4 (.tmp 7)), none⟩, ⟨(some 50), (.load false 1 (.tmp 49)), none⟩, ⟨(some 51), (.len (.tmp 50)), none⟩, ⟨(some 52), (.bin .eql (.tmp 51) (.cst (.int .i64 0))), none⟩]
abbrev A34r26 : List AIns := [⟨(some 53), (.faddr 0 (.tmp 11)), none⟩, ⟨(some 54), (.load false 1 (.tmp 53)), none⟩, ⟨(some 55), (.bin .rem (.tmp 54) (.cst (.int .u8 4))), none⟩, ⟨(some 56), (.bin .eql (.tmp 55) (.cst (.int .u8 2))), none⟩, ⟨(some 20), (.mv (.tmp 56)), none⟩]
abbrev A34d27 : List AIns := [⟨(some 58), (.load true 5 (.tmp 7)), none⟩, ⟨(some 59), (.faddr 3 (.tmp 11)), none⟩, ⟨(some 60), (.load false 1 (.tmp 59)), none⟩, ⟨(some 61), (.conv .i64 (.tmp 60)), none⟩, ⟨(some 62), (.faddr 4 (.tmp 7)), none⟩, ⟨(some 63), (.load false 1 (.tmp 62)), none⟩, ⟨(some 64), (.len (.tmp 63)), none⟩, ⟨(some 65), (.bin .rem (.tmp 61) (.tmp 64)), none⟩, ⟨(some 66), (.mv (.tmp 20)), none⟩, ⟨(some 67), (.call (.fnc 58) [(.tmp 58), (.tmp 65), (.tmp 66)]), none⟩, ⟨(some 57), (.mv (.tmp 67)), none⟩, ⟨(some 68), (.extract 0 (.tmp 57)), none⟩, ⟨(some 69), (.extract 1 (.tmp 57)), none⟩, ⟨(some 70), (.extract 2 (.tmp 57)), none⟩, ⟨(some 21), (.alloc [(.int .i64 0), (.int .i64 0), .nil, .nil, .nil]), none⟩, ⟨(some 22), (.alloc [(.int .i64 0), (.int .i64 0), (.int .i64 0), .nil]), none⟩, ⟨none, (.store 5 (.tmp 21) (.tmp 68)), none⟩, ⟨none, (.store 4 (.tmp 22) (.tmp 69)), none⟩, ⟨(some 23), (.mv (.tmp 70)), none⟩]
abbrev A34d27a : List AIns := [⟨(some 58), (.load true 5 (.tmp 7)), none⟩, ⟨(some 59), (.faddr 3 (.tmp 11)), none⟩, ⟨(some 60), (.load false 1 (.tmp 59)), none⟩, ⟨(some 61), (.conv .i64 (.tmp 60)), none⟩, ⟨(some 62), (.faddr 4 (.tmp 7)), none⟩, ⟨(some 63), (.load false 1 (.tmp 62)), none⟩, ⟨(some 64), (.len (.tmp 63)), none⟩, ⟨(some 65), (.bin .rem (.tmp 61) (.tmp 64)), none⟩, ⟨(some 66), (.mv (.tmp 20)), none⟩, ⟨(some 67), (.call (.fnc 58) [(.tmp 58), (.tmp 65), (.tmp 66)]), none⟩, ⟨(some 57), (.mv (.tmp 67)), none⟩, ⟨(some 68), (.extract 0 (.tmp 57)), none⟩, ⟨(some 69), (.extract 1 (.tmp 57)), none⟩, ⟨(some 70), (.extract 2 (.tmp 57)), none⟩]
abbrev A34d27b : List AIns := [⟨(some 21), (.alloc [(.int .i64 0), (.int .i64 0), .nil, .nil, .nil]), none⟩, ⟨(some 22), (.alloc [(.int .i64 0), (.int .i64 0), (.int .i64 0), .nil]), none⟩, ⟨none, (.store 5 (.tmp 21) (.tmp 68)), none⟩, ⟨none, (.store 4 (.tmp 22) (.tmp 69)), none⟩, ⟨(some 23), (.mv (.tmp 70)), none⟩]
abbrev A34r28 : List AIns := [⟨(some 71), (.mv (.tmp 23)), none⟩, ⟨(some 72), (.bin .neq (.tmp 71) (.cst (.int .i64 0))), none⟩]
abbrev A34r29 : List AIns := [⟨(some 73), (.load true 5 (.tmp 7)), none⟩, ⟨none, (.store 5 (.tmp 2) (.tmp 73)), none⟩, ⟨(some 3), (.mv (.cst .nil)), none⟩, ⟨(some 4), (.mv (.cst .nil)), none⟩, ⟨(some 5), (.mv (.cst (.bool false))), none⟩]
abbrev A34r30 : List AIns := [⟨(some 74), (.load true 5 (.tmp 21)), none⟩, ⟨none, (.store 5 (.tmp 7) (.tmp 74)), none⟩]
abbrev A34r31 : List AIns := [⟨(some 75), (.mv (.tmp 9)), none⟩, ⟨(some 76), (.load true 4 (.tmp 22)), none⟩, ⟨(some 77), (.mv (.tmp 20)), none⟩, ⟨(some 78), (.call (.fnc 59) [(.tmp 75), (.tmp 76), (.tmp 77)]), none⟩, ⟨(some 9), (.mv (.tmp 78)), none⟩]
abbrev A34c32 : ACode := (.seq (.seq (.reg A34r25 [0, 2, 6, 7, 9, 10, 11, 52]) (.cond (.tmp 52) [0, 2, 6, 7, 9, 10] (.exit 1) [0, 2, 6, 7, 9, 10, 11] .skip)) (.seq (.reg A34r26 [0, 2, 6, 7, 9, 10, 11, 20]) (.seq (.dreg A34d27 [[], [], [1], [1, 2], [], [4], [4, 5], [1, 2, 3, 4, 5, 6], [], [0, 1, 2, 3, 4, 5, 6, 7, 8], [0, 1, 2, 3, 4, 5, 6, 7, 8, 9], [0, 1, 2, 3, 4, 5, 6, 7, 8, 9, 10], [0, 1, 2, 3, 4, 5, 6, 7, 8, 9, 10], [0, 1, 2, 3, 4, 5, 6, 7, 8, 9, 10], [], [], [0, 1, 2, 3, 4, 5, 6, 7, 8, 9, 10, 11, 14, 15], [0, 1, 2, 3, 4, 5, 6, 7, 8, 9, 10, 11, 12, 14, 15, 16], [0, 1, 2, 3, 4, 5, 6, 7, 8, 9, 10, 11, 12, 13, 14, 15, 16, 17]] [0, 2, 6, 7, 9, 10, 20, 21, 22, 23]) (.seq (.seq (.reg A34r28 [0, 2, 6, 7, 9, 10, 20, 21, 22, 72]) (.cond (.tmp 72) [2, 7] (.seq (.reg A34r29 [2, 3, 4, 5]) .ret) [0, 2, 6, 7, 9, 10, 20, 21, 22] .skip)) (.seq (.reg A34r30 [0, 2, 6, 7, 9, 10, 20, 22]) (.reg A34r31 [0, 2, 6, 7, 9, 10]))))))
abbrev A34c33 : ACode := (.seq (.reg A34r20 [0, 2, 6, 7, 9, 10, 11, 108]) (.cond (.tmp 108) [0, 2, 6, 7, 9, 10] A34c24 [0, 2, 6, 7, 9, 10, 11] A34c32))
abbrev A34c34 : ACode := (.seq (.reg A34r12 [0, 2, 6, 7, 9, 10, 11, 48, 79]) (.cond (.tmp 79) [0, 2, 6, 7, 9, 10, 11] A34c19 [0, 2, 6, 7, 9, 10, 11, 48] A34c33))
abbrev A34c35 : ACode := (.seq (.reg A34r10 [0, 2, 6, 7, 9, 10, 11]) (.seq (.reg A34r11 [0, 2, 6, 7, 9, 10, 11, 48]) (.block 2 A34c34)))
abbrev A34r36 : List AIns := [⟨(some 40), (.mv (.tmp 10)), none⟩, ⟨(some 41), (.bin .add (.tmp 40) (.cst (.int .i64 1))), none⟩, ⟨(some 10), (.mv (.tmp 41)), none⟩]
abbrev A34l8 : ACode := (.seq (.seq (.reg A34r9 [0, 2, 6, 7, 9, 10, 39]) (.cond (.tmp 39) [0, 2, 6, 7, 9, 10] .skip [2, 6, 7, 9] (.exit 0))) (.seq (.block 1 A34c35) (.reg A34r36 [0, 2, 6, 7, 9, 10])))
abbrev A34r37 : List AIns := [⟨(some 119), (.load true 5 (.tmp 7)), none⟩, ⟨(some 120), (.mv (.tmp 6)), none⟩, ⟨(some 121), (.mv (.tmp 9)), none⟩, ⟨none, (.store 5 (.tmp 2) (.tmp 119)), none⟩, ⟨(some 3), (.mv (.tmp 120)), none⟩, ⟨(some 4), (.mv (.tmp 121)), none⟩, ⟨(some 5), (.mv (.cst (.bool true))), none⟩]
def A34 : AFun := ⟨122, 1, [(.cell 2 true 5), (.tmp 3), (.tmp 4), (.tmp 5)], (.seq (.reg A34r1 [0, 2]) (.seq (.reg A34r2 [0, 2, 6]) (.seq (.reg A34r3 [0, 2, 6, 7, 8]) (.seq (.seq (.reg A34r4 [0, 2, 6, 7, 34]) (.cond (.tmp 34) [2, 7] (.seq (.reg A34r5 [2, 3, 4, 5]) .ret) [0, 2, 6, 7] .skip)) (.seq (.reg A34r6 [0, 2, 6, 7, 9]) (.seq (.seq (.reg A34r7 [0, 2, 6, 7, 9, 10]) (.block 0 (.loop A34l8))) (.seq (.reg A34r37 [2, 3, 4, 5]) .ret)))))))⟩
theorem A34c : compF Try.prog Try.f34 = some A34 := by kernel_rfl
theorem A34k : Callable Try.prog 34 := fun a w => Try.call34 a w
theorem A34p {ds : List D} {r : D} (hl : ds.length ≤ A34.nt) (hw : W Try.prog A34.code (Fin A34.results r) ⟨argEnv 0 ds, fun _ => none⟩) : PCon Try.prog 34 ds r := pcon_of_W mixed Try.func34 A34k A34c hl hw
/- estovers/device.Choices -/
abbrev A35r1 : List AIns := [⟨(some 1), (.box (.tmp 0)), none⟩, ⟨(some 2), (.mv (.cst (.int .i64 0))), none⟩]
abbrev A35r2 : List AIns := [⟨(some 6), (.load true 5 (.tmp 1)), none⟩, ⟨(some 7), (.call (.fnc 60) [(.tmp 6)]), none⟩, ⟨(some 8), (.bin .neq (.tmp 7) (.cst (.int .i64 0))), none⟩]
abbrev A35r3 : List AIns := [⟨(some 2), (.mv (.cst (.int .i64 0))), none⟩]
abbrev A35r4 : List AIns := [⟨(some 9), (.faddr 3 (.tmp 1)), none⟩, ⟨(some 10), (.load false 1 (.tmp 9)), none⟩, ⟨(some 11), (.len (.tmp 10)), none⟩, ⟨(some 3), (.mv (.tmp 11)), none⟩]
abbrev A35r5 : List AIns := [⟨(some 12), (.faddr 4 (.tmp 1)), none⟩, ⟨(some 13), (.load false 1 (.tmp 12)), none⟩, ⟨(some 14), (.len (.tmp 13)), none⟩, ⟨(some 15), (.mv (.cst (.int .i64 0))), none⟩]
abbrev A35r7 : List AIns := [⟨(some 16), (.bin .lss (.tmp 15) (.tmp 14)), none⟩]
abbrev A35r8 : List AIns := [⟨(some 17), (.iaddr 4 (.tmp 13) (.tmp 15)), none⟩, ⟨(some 18), (.load true 4 (.tmp 17)), none⟩, ⟨(some 5), (.alloc [(.int .i64 0), (.int .i64 0), (.int .i64 0), .nil]), none⟩, ⟨none, (.store 4 (.tmp 5) (.tmp 18)), none⟩]
abbrev A35r9 : List AIns := [⟨(some 19), (.faddr 1 (.tmp 5)), none⟩, ⟨(some 20), (.load false 1 (.tmp 19)), none⟩, ⟨(some 21), (.bin .eql (.tmp 20) (.cst (.int .i64 2))), none⟩]
abbrev A35r10 : List AIns := [⟨(some 22), (.mv (.tmp 3)), none⟩, ⟨(some 23), (.bin .add (.tmp 22) (.cst (.int .i64 1))), none⟩, ⟨(some 3), (.mv (.tmp 23)), none⟩]
abbrev A35c11 : ACode := (.seq (.reg A35r8 [3, 5, 13, 14, 15]) (.seq (.reg A35r9 [3, 13, 14, 15, 21]) (.cond (.tmp 21) [3, 13, 14, 15] (.reg A35r10 [3, 13, 14, 15]) [3, 13, 14, 15] .skip)))
abbrev A35r12 : List AIns := [⟨(some 24), (.bin .add (.tmp 15) (.cst (.int .i64 1))), none⟩, ⟨(some 15), (.mv (.tmp 24)), none⟩]
abbrev A35l6 : ACode := (.seq (.reg A35r7 [3, 13, 14, 15, 16]) (.seq (.cond (.tmp 16) [3, 13, 14, 15] .skip [3] (.exit 0)) (.seq (.block 1 A35c11) (.reg A35r12 [3, 13, 14, 15]))))
abbrev A35r13 : List AIns := [⟨(some 25), (.mv (.tmp 3)), none⟩, ⟨(some 2), (.mv (.tmp 25)), none⟩]
def A35 : AFun := ⟨26, 1, [(.tmp 2)], (.seq (.reg A35r1 [1]) (.seq (.seq (.reg A35r2 [1, 8]) (.cond (.tmp 8) [] (.seq (.reg A35r3 [2]) .ret) [1] .skip)) (.seq (.reg A35r4 [1, 3]) (.seq (.seq (.reg A35r5 [3, 13, 14, 15]) (.block 0 (.loop A35l6))) (.seq (.reg A35r13 [2]) .ret)))))⟩
theorem A35c : compF Try.prog Try.f35 = some A35 := by kernel_rfl
theorem A35k : Callable Try.prog 35 := fun a w => Try.call35 a w
theorem A35p {ds : List D} {r : D} (hl : ds.length ≤ A35.nt) (hw : W Try.prog A35.code (Fin A35.results r) ⟨argEnv 0 ds, fun _ => none⟩) : PCon Try.prog 35 ds r := pcon_of_W mixed Try.func35 A35k A35c hl hw
/- estovers/device.Crash -/
abbrev A36r1 : List AIns := [⟨(some 2), (.box (.tmp 0)), none⟩, ⟨(some 3), (.box (.tmp 1)), none⟩, ⟨(some 4), (.alloc [(.int .i64 0), (.int .i64 0), .nil, .nil, .nil]), none⟩, ⟨(some 5), (.mv (.cst (.int .i64 0))), none⟩]
abbrev A36r2 : List AIns := [⟨(some 14), (.load true 5 (.tmp 2)), none⟩, ⟨(some 15), (.call (.fnc 60) [(.tmp 14)]), none⟩, ⟨(some 6), (.mv (.tmp 15)), none⟩]
abbrev A36r3 : List AIns := [⟨(some 16), (.mv (.tmp 6)), none⟩, ⟨(some 17), (.bin .neq (.tmp 16) (.cst (.int .i64 0))), none⟩]
abbrev A36r4 : List AIns := [⟨(some 18), (.build [(.int .i64 0), (.int .i64 0), .nil, .nil, .nil] []), none⟩, ⟨(some 19), (.mv (.tmp 6)), none⟩, ⟨none, (.store 5 (.tmp 4) (.tmp 18)), none⟩, ⟨(some 5), (.mv (.tmp 19)), none⟩]
abbrev A36r5 : List AIns := [⟨(some 20), (.load true 5 (.tmp 2)), none⟩, ⟨(some 21), (.call (.fnc 61) [(.tmp 20)]), none⟩, ⟨(some 7), (.alloc [(.int .i64 0), (.int .i64 0), .nil, .nil, .nil]), none⟩, ⟨none, (.store 5 (.tmp 7) (.tmp 21)), none⟩]
abbrev A36r6 : List AIns := [⟨(some 8), (.alloc [(.int .i64 0)]), none⟩, ⟨none, (.store 1 (.tmp 8) (.cst (.int .i64 0))), none⟩]
abbrev A36r7 : List AIns := [⟨(some 22), (.mkfn 62 [] [(.tmp 8), (.tmp 3), (.tmp 7)]), none⟩, ⟨(some 9), (.mv (.tmp 22)), none⟩]
abbrev A36r8 : List AIns := [⟨(some 23), (.faddr 3 (.tmp 2)), none⟩, ⟨(some 24), (.load false 1 (.tmp 23)), none⟩, ⟨(some 25), (.len (.tmp 24)), none⟩, ⟨(some 26), (.mv (.cst (.int .i64 0))), none⟩]
abbrev A36r10 : List AIns := [⟨(some 27), (.bin .lss (.tmp 26) (.tmp 25)), none⟩]
abbrev A36r11 : List AIns := [⟨(some 28), (.iaddr 2 (.tmp 24) (.tmp 26)), none⟩, ⟨(some 29), (.load true 2 (.tmp 28)), none⟩, ⟨(some 11), (.alloc [(.int .i64 0), .nil]), none⟩, ⟨none, (.store 2 (.tmp 11) (.tmp 29)), none⟩]
abbrev A36r12 : List AIns := [⟨(some 30), (.mv (.tmp 9)), none⟩, ⟨(some 31), (.faddr 0 (.tmp 11)), none⟩, ⟨(some 32), (.load false 1 (.tmp 31)), none⟩, ⟨(some 33), (.faddr 1 (.tmp 11)), none⟩, ⟨(some 34), (.load false 1 (.tmp 33)), none⟩, ⟨(some 35), (.call (.tmp 30) [(.tmp 32), (.tmp 34)]), none⟩]
abbrev A36c13 : ACode := (.seq (.reg A36r11 [2, 4, 7, 9, 11, 24, 25, 26]) (.reg A36r12 [2, 4, 7, 9, 24, 25, 26]))
abbrev A36r14 : List AIns := [⟨(some 36), (.bin .add (.tmp 26) (.cst (.int .i64 1))), none⟩, ⟨(some 26), (.mv (.tmp 36)), none⟩]
abbrev A36l9 : ACode := (.seq (.reg A36r10 [2, 4, 7, 9, 24, 25, 26, 27]) (.seq (.cond (.tmp 27) [2, 4, 7, 9, 24, 25, 26] .skip [2, 4, 7, 9] (.exit 0)) (.seq (.block 1 A36c13) (.reg A36r14 [2, 4, 7, 9, 24, 25, 26]))))
abbrev A36r15 : List AIns := [⟨(some 37), (.faddr 4 (.tmp 2)), none⟩, ⟨(some 38), (.load false 1 (.tmp 37)), none⟩, ⟨(some 39), (.len (.tmp 38)), none⟩, ⟨(some 40), (.mv (.cst (.int .i64 0))), none⟩]
abbrev A36r17 : List AIns := [⟨(some 41), (.bin .lss (.tmp 40) (.tmp 39)), none⟩]
abbrev A36r18 : List AIns := [⟨(some 42), (.iaddr 4 (.tmp 38) (.tmp 40)), none⟩, ⟨(some 43), (.load true 4 (.tmp 42)), none⟩, ⟨(some 13), (.alloc [(.int .i64 0), (.int .i64 0), (.int .i64 0), .nil]), none⟩, ⟨none, (.store 4 (.tmp 13) (.tmp 43)), none⟩]
abbrev A36r19 : List AIns := [⟨(some 44), (.faddr 1 (.tmp 13)), none⟩, ⟨(some 45), (.load false 1 (.tmp 44)), none⟩, ⟨(some 46), (.bin .eql (.tmp 45) (.cst (.int .i64 2))), none⟩]
abbrev A36r20 : List AIns := [⟨(some 47), (.mv (.tmp 9)), none⟩, ⟨(some 48), (.faddr 2 (.tmp 13)), none⟩, ⟨(some 49), (.load false 1 (.tmp 48)), none⟩, ⟨(some 50), (.faddr 3 (.tmp 13)), none⟩, ⟨(some 51), (.load false 1 (.tmp 50)), none⟩, ⟨(some 52), (.call (.tmp 47) [(.tmp 49), (.tmp 51)]), none⟩]
abbrev A36c21 : ACode := (.seq (.reg A36r18 [4, 7, 9, 13, 38, 39, 40]) (.seq (.reg A36r19 [4, 7, 9, 13, 38, 39, 40, 46]) (.cond (.tmp 46) [4, 7, 9, 13, 38, 39, 40] (.reg A36r20 [4, 7, 9, 38, 39, 40]) [4, 7, 9, 38, 39, 40] .skip)))
abbrev A36r22 : List AIns := [⟨(some 53), (.bin .add (.tmp 40) (.cst (.int .i64 1))), none⟩, ⟨(some 40), (.mv (.tmp 53)), none⟩]
abbrev A36l16 : ACode := (.seq (.reg A36r17 [4, 7, 9, 38, 39, 40, 41]) (.seq (.cond (.tmp 41) [4, 7, 9, 38, 39, 40] .skip [4, 7] (.exit 2)) (.seq (.block 3 A36c21) (.reg A36r22 [4, 7, 9, 38, 39, 40]))))
abbrev A36r23 : List AIns := [⟨(some 54), (.faddr 3 (.tmp 7)), none⟩, ⟨none, (.store 1 (.tmp 54) (.cst .nil)), none⟩, ⟨(some 55), (.faddr 4 (.tmp 7)), none⟩, ⟨none, (.store 1 (.tmp 55) (.cst .nil)), none⟩]
abbrev A36r24 : List AIns := [⟨(some 56), (.load true 5 (.tmp 7)), none⟩, ⟨none, (.store 5 (.tmp 4) (.tmp 56)), none⟩, ⟨(some 5), (.mv (.cst (.int .i64 0))), none⟩]
def A36 : AFun := ⟨57, 2, [(.cell 4 true 5), (.tmp 5)], (.seq (.reg A36r1 [2, 3, 4]) (.seq (.seq (.reg A36r2 [2, 3, 4, 6]) (.seq (.reg A36r3 [2, 3, 4, 6, 17]) (.cond (.tmp 17) [4, 6] (.seq (.reg A36r4 [4, 5]) .ret) [2, 3, 4] .skip))) (.seq (.reg A36r5 [2, 3, 4, 7]) (.seq (.reg A36r6 [2, 3, 4, 7, 8]) (.seq (.reg A36r7 [2, 4, 7, 9]) (.seq (.seq (.reg A36r8 [2, 4, 7, 9, 24, 25, 26]) (.block 0 (.loop A36l9))) (.seq (.seq (.reg A36r15 [4, 7, 9, 38, 39, 40]) (.block 2 (.loop A36l16))) (.seq (.reg A36r23 [4, 7]) (.seq (.reg A36r24 [4, 5]) .ret)))))))))⟩
theorem A36c : compF Try.prog Try.f36 = some A36 := by kernel_rfl
theorem A36k : Callable Try.prog 36 := fun a w => Try.call36 a w
theorem A36p {ds : List D} {r : D} (hl : ds.length ≤ A36.nt) (hw : W Try.prog A36.code (Fin A36.results r) ⟨argEnv 0 ds, fun _ => none⟩) : PCon Try.prog 36 ds r := pcon_of_W mixed Try.func36 A36k A36c hl hw
/- estovers/device.Content -/
/- estovers/estoverslaw11.page -/
/- estovers/durable.after -/
abbrev A39r1 : List AIns := [⟨(some 4), (.mv (.cst .nilp)), none⟩, ⟨(some 5), (.mv (.cst (.int .i64 0))), none⟩]
abbrev A39r2 : List AIns := [⟨(some 13), (.mv (.tmp 0)), none⟩, ⟨(some 14), (.len (.tmp 13)), none⟩, ⟨(some 15), (.mv (.cst (.int .i64 0))), none⟩]
abbrev A39r4 : List AIns := [⟨(some 16), (.bin .lss (.tmp 15) (.tmp 14)), none⟩]
abbrev A39r5 : List AIns := [⟨(some 17), (.iaddr 1 (.tmp 13) (.tmp 15)), none⟩, ⟨(some 18), (.load false 1 (.tmp 17)), none⟩, ⟨(some 7), (.mv (.tmp 18)), none⟩]
abbrev A39r6 : List AIns := [⟨(some 19), (.mv (.tmp 7)), none⟩, ⟨(some 20), (.len (.tmp 19)), none⟩, ⟨(some 21), (.bin .neq (.tmp 20) (.cst (.int .i64 32))), none⟩]
abbrev A39r7 : List AIns := [⟨(some 4), (.mv (.cst .nilp)), none⟩, ⟨(some 5), (.mv (.cst (.int .i64 3))), none⟩]
abbrev A39c8 : ACode := (.seq (.reg A39r5 [0, 1, 7, 13, 14, 15]) (.seq (.reg A39r6 [0, 1, 13, 14, 15, 21]) (.cond (.tmp 21) [] (.seq (.reg A39r7 [4, 5]) .ret) [0, 1, 13, 14, 15] .skip)))
abbrev A39r9 : List AIns := [⟨(some 22), (.bin .add (.tmp 15) (.cst (.int .i64 1))), none⟩, ⟨(some 15), (.mv (.tmp 22)), none⟩]
abbrev A39l3 : ACode := (.seq (.reg A39r4 [0, 1, 13, 14, 15, 16]) (.seq (.cond (.tmp 16) [0, 1, 13, 14, 15] .skip [0, 1] (.exit 0)) (.seq (.block 1 A39c8) (.reg A39r9 [0, 1, 13, 14, 15]))))
abbrev A39d10 : List AIns := [⟨(some 23), (.mv (.tmp 0)), none⟩, ⟨(some 24), (.call (.fnc 65) [(.tmp 23)]), none⟩, ⟨(some 25), (.mv (.tmp 0)), none⟩, ⟨(some 26), (.len (.tmp 25)), none⟩, ⟨(some 27), (.mkslice 1 24 [.nil] (.tmp 26) (.tmp 26)), none⟩, ⟨(some 28), (.build [.nil, .nil, .nil] [(0, (1, (.tmp 24))), (1, (1, (.tmp 27)))]), none⟩, ⟨(some 29), (.box (.tmp 28)), none⟩, ⟨(some 8), (.mv (.tmp 29)), none⟩]
abbrev A39d10x : List AIns := [⟨(some 23), (.mv (.tmp 0)), none⟩]
abbrev A39d10m : List AIns := [⟨(some 25), (.mv (.tmp 0)), none⟩, ⟨(some 26), (.len (.tmp 25)), none⟩]
abbrev A39d10s : List AIns := [⟨(some 27), (.mkslice 1 24 [.nil] (.tmp 26) (.tmp 26)), none⟩, ⟨(some 28), (.build [.nil, .nil, .nil] [(0, (1, (.tmp 24))), (1, (1, (.tmp 27)))]), none⟩, ⟨(some 29), (.box (.tmp 28)), none⟩, ⟨(some 8), (.mv (.tmp 29)), none⟩]
abbrev A39r11 : List AIns := [⟨(some 30), .mkmap, none⟩, ⟨(some 9), (.mv (.tmp 30)), none⟩]
abbrev A39r12 : List AIns := [⟨(some 31), (.mv (.tmp 1)), none⟩, ⟨(some 32), (.len (.tmp 31)), none⟩, ⟨(some 33), (.mv (.cst (.int .i64 0))), none⟩]
abbrev A39r14 : List AIns := [⟨(some 34), (.bin .lss (.tmp 33) (.tmp 32)), none⟩]
abbrev A39r15 : List AIns := [⟨(some 35), (.iaddr 4 (.tmp 31) (.tmp 33)), none⟩, ⟨(some 36), (.load true 4 (.tmp 35)), none⟩, ⟨(some 11), (.alloc [(.int .i64 0), (.int .i64 0), (.int .i64 0), .nil]), none⟩, ⟨none, (.store 4 (.tmp 11) (.tmp 36)), none⟩]
abbrev A39r16 : List AIns := [⟨(some 37), (.mv (.tmp 8)), none⟩, ⟨(some 38), (.load true 4 (.tmp 11)), none⟩, ⟨(some 39), (.mv (.tmp 9)), none⟩, ⟨(some 40), (.call (.fnc 66) [(.tmp 37), (.tmp 38), (.tmp 39)]), none⟩, ⟨(some 12), (.mv (.tmp 40)), none⟩]
abbrev A39r17 : List AIns := [⟨(some 41), (.mv (.tmp 12)), none⟩, ⟨(some 42), (.bin .neq (.tmp 41) (.cst (.int .i64 0))), none⟩]
abbrev A39r18 : List AIns := [⟨(some 43), (.mv (.tmp 12)), none⟩, ⟨(some 4), (.mv (.cst .nilp)), none⟩, ⟨(some 5), (.mv (.tmp 43)), none⟩]
abbrev A39r19 : List AIns := [⟨(some 44), (.faddr 0 (.tmp 11)), none⟩, ⟨(some 45), (.load false 1 (.tmp 44)), none⟩, ⟨(some 46), (.bin .eql (.tmp 45) (.cst (.int .i64 1))), none⟩]
abbrev A39r20 : List AIns := [⟨(some 47), (.mv (.tmp 9)), none⟩, ⟨(some 48), (.faddr 1 (.tmp 11)), none⟩, ⟨(some 49), (.load false 1 (.tmp 48)), none⟩, ⟨none, (.mapPut (.tmp 47) (.tmp 49) (.cst (.bool true))), none⟩]
abbrev A39r21 : List AIns := [⟨(some 50), (.mv (.tmp 8)), none⟩, ⟨(some 51), (.load true 4 (.tmp 11)), none⟩, ⟨(some 52), (.call (.fnc 67) [(.tmp 50), (.tmp 51)]), none⟩]
abbrev A39c22 : ACode := (.seq (.reg A39r15 [8, 9, 11, 31, 32, 33]) (.seq (.seq (.reg A39r16 [8, 9, 11, 12, 31, 32, 33]) (.seq (.reg A39r17 [8, 9, 11, 12, 31, 32, 33, 42]) (.cond (.tmp 42) [12] (.seq (.reg A39r18 [4, 5]) .ret) [8, 9, 11, 31, 32, 33] .skip))) (.seq (.seq (.reg A39r19 [8, 9, 11, 31, 32, 33, 46]) (.cond (.tmp 46) [8, 9, 11, 31, 32, 33] (.reg A39r20 [8, 9, 11, 31, 32, 33]) [8, 9, 11, 31, 32, 33] .skip)) (.reg A39r21 [8, 9, 31, 32, 33]))))
abbrev A39r23 : List AIns := [⟨(some 53), (.bin .add (.tmp 33) (.cst (.int .i64 1))), none⟩, ⟨(some 33), (.mv (.tmp 53)), none⟩]
abbrev A39l13 : ACode := (.seq (.reg A39r14 [8, 9, 31, 32, 33, 34]) (.seq (.cond (.tmp 34) [8, 9, 31, 32, 33] .skip [8] (.exit 2)) (.seq (.block 3 A39c22) (.reg A39r23 [8, 9, 31, 32, 33]))))
abbrev A39r24 : List AIns := [⟨(some 54), (.mv (.tmp 8)), none⟩, ⟨(some 4), (.mv (.tmp 54)), none⟩, ⟨(some 5), (.mv (.cst (.int .i64 0))), none⟩]
def A39 : AFun := ⟨55, 2, [(.tmp 4), (.tmp 5)], (.seq (.reg A39r1 [0, 1]) (.seq (.seq (.reg A39r2 [0, 1, 13, 14, 15]) (.block 0 (.loop A39l3))) (.seq (.dreg A39d10 [[], [0], [], [2], [2, 3], [0, 1, 2, 3, 4], [0, 1, 2, 3, 4, 5], [0, 1, 2, 3, 4, 5, 6]] [1, 8]) (.seq (.reg A39r11 [1, 8, 9]) (.seq (.seq (.reg A39r12 [8, 9, 31, 32, 33]) (.block 2 (.loop A39l13))) (.seq (.reg A39r24 [4, 5]) .ret))))))⟩
theorem A39c : compF Try.prog Try.f39 = some A39 := by kernel_rfl
theorem A39k : Callable Try.prog 39 := fun a w => Try.call39 a w
/- estovers/estoversref11.event -/
/- (*estovers/durable.state).choices -/
abbrev A41r1 : List AIns := [⟨(some 4), (.mv (.cst .nil)), none⟩]
abbrev A41d2 : List AIns := [⟨(some 11), (.mv (.tmp 0)), none⟩, ⟨(some 12), (.nilck (.tmp 11)), none⟩, ⟨(some 13), (.faddr 0 (.tmp 12)), none⟩, ⟨(some 14), (.load false 1 (.tmp 13)), none⟩, ⟨(some 15), (.mv (.tmp 1)), none⟩, ⟨(some 16), (.iaddr 1 (.tmp 14) (.tmp 15)), none⟩, ⟨(some 17), (.load false 1 (.tmp 16)), none⟩, ⟨(some 18), (.mv (.tmp 0)), none⟩, ⟨(some 19), (.mv (.tmp 1)), none⟩, ⟨(some 20), (.call (.fnc 48) [(.tmp 18), (.tmp 19)]), none⟩, ⟨(some 21), (.buildS 1 [.nil] 2 [(0, (1, (.tmp 17))), (1, (1, (.tmp 20)))]), none⟩, ⟨(some 5), (.mv (.tmp 21)), none⟩]
abbrev A41d2a : List AIns := [⟨(some 11), (.mv (.tmp 0)), none⟩, ⟨(some 12), (.nilck (.tmp 11)), none⟩, ⟨(some 13), (.faddr 0 (.tmp 12)), none⟩, ⟨(some 14), (.load false 1 (.tmp 13)), none⟩, ⟨(some 15), (.mv (.tmp 1)), none⟩, ⟨(some 16), (.iaddr 1 (.tmp 14) (.tmp 15)), none⟩, ⟨(some 17), (.load false 1 (.tmp 16)), none⟩, ⟨(some 18), (.mv (.tmp 0)), none⟩, ⟨(some 19), (.mv (.tmp 1)), none⟩, ⟨(some 20), (.call (.fnc 48) [(.tmp 18), (.tmp 19)]), none⟩]
abbrev A41d2b : List AIns := [⟨(some 21), (.buildS 1 [.nil] 2 [(0, (1, (.tmp 17))), (1, (1, (.tmp 20)))]), none⟩, ⟨(some 5), (.mv (.tmp 21)), none⟩]
abbrev A41r3 : List AIns := [⟨(some 22), (.mv (.tmp 0)), none⟩, ⟨(some 23), (.nilck (.tmp 22)), none⟩, ⟨(some 24), (.faddr 2 (.tmp 23)), none⟩, ⟨(some 25), (.load false 1 (.tmp 24)), none⟩, ⟨(some 26), (.len (.tmp 25)), none⟩, ⟨(some 27), (.mv (.cst (.int .i64 0))), none⟩]
abbrev A41r5 : List AIns := [⟨(some 28), (.bin .lss (.tmp 27) (.tmp 26)), none⟩]
abbrev A41r6 : List AIns := [⟨(some 29), (.iaddr 3 (.tmp 25) (.tmp 27)), none⟩, ⟨(some 30), (.load true 3 (.tmp 29)), none⟩, ⟨(some 7), (.alloc [(.int .i64 0), (.int .i64 0), .nil]), none⟩, ⟨none, (.store 3 (.tmp 7) (.tmp 30)), none⟩]
abbrev A41r7 : List AIns := [⟨(some 31), (.faddr 1 (.tmp 7)), none⟩, ⟨(some 32), (.load false 1 (.tmp 31)), none⟩, ⟨(some 33), (.mv (.tmp 1)), none⟩, ⟨(some 34), (.bin .eql (.tmp 32) (.tmp 33)), none⟩]
abbrev A41r8 : List AIns := [⟨(some 35), (.mv (.tmp 5)), none⟩, ⟨(some 36), (.faddr 2 (.tmp 7)), none⟩, ⟨(some 37), (.load false 1 (.tmp 36)), none⟩, ⟨(some 38), (.buildS 1 [.nil] 1 [(0, (1, (.tmp 37)))]), none⟩, ⟨(some 39), (.append 1 24 (.tmp 35) (.tmp 38)), none⟩, ⟨(some 5), (.mv (.tmp 39)), none⟩]
abbrev A41c9 : ACode := (.seq (.reg A41r6 [1, 5, 7, 25, 26, 27]) (.seq (.reg A41r7 [1, 5, 7, 25, 26, 27, 34]) (.cond (.tmp 34) [1, 5, 7, 25, 26, 27] (.reg A41r8 [1, 5, 25, 26, 27]) [1, 5, 25, 26, 27] .skip)))
abbrev A41r10 : List AIns := [⟨(some 40), (.bin .add (.tmp 27) (.cst (.int .i64 1))), none⟩, ⟨(some 27), (.mv (.tmp 40)), none⟩]
abbrev A41l4 : ACode := (.seq (.reg A41r5 [1, 5, 25, 26, 27, 28]) (.seq (.cond (.tmp 28) [1, 5, 25, 26, 27] .skip [5] (.exit 0)) (.seq (.block 1 A41c9) (.reg A41r10 [1, 5, 25, 26, 27]))))
abbrev A41r11 : List AIns := [⟨(some 8), (.mv (.cst .nil)), none⟩]
abbrev A41r12 : List AIns := [⟨(some 41), (.mv (.tmp 5)), none⟩, ⟨(some 42), (.len (.tmp 41)), none⟩, ⟨(some 43), (.mv (.cst (.int .i64 0))), none⟩]
abbrev A41r14 : List AIns := [⟨(some 44), (.bin .lss (.tmp 43) (.tmp 42)), none⟩]
abbrev A41r15 : List AIns := [⟨(some 45), (.iaddr 1 (.tmp 41) (.tmp 43)), none⟩, ⟨(some 46), (.load false 1 (.tmp 45)), none⟩, ⟨(some 10), (.alloc [.nil]), none⟩, ⟨none, (.store 1 (.tmp 10) (.tmp 46)), none⟩]
abbrev A41r16 : List AIns := [⟨(some 47), (.mv (.tmp 8)), none⟩, ⟨(some 48), (.mkfn 68 [] [(.tmp 10)]), none⟩, ⟨(some 49), (.call (.fnc 51) [(.tmp 47), (.tmp 48)]), none⟩, ⟨(some 50), (.un .not (.tmp 49)), none⟩]
abbrev A41r17 : List AIns := [⟨(some 51), (.mv (.tmp 8)), none⟩, ⟨(some 52), (.load false 1 (.tmp 10)), none⟩, ⟨(some 53), (.buildS 1 [.nil] 1 [(0, (1, (.tmp 52)))]), none⟩, ⟨(some 54), (.append 1 24 (.tmp 51) (.tmp 53)), none⟩, ⟨(some 8), (.mv (.tmp 54)), none⟩]
abbrev A41c18 : ACode := (.seq (.reg A41r15 [8, 10, 41, 42, 43]) (.seq (.reg A41r16 [8, 10, 41, 42, 43, 50]) (.cond (.tmp 50) [8, 10, 41, 42, 43] (.reg A41r17 [8, 41, 42, 43]) [8, 41, 42, 43] .skip)))
abbrev A41r19 : List AIns := [⟨(some 55), (.bin .add (.tmp 43) (.cst (.int .i64 1))), none⟩, ⟨(some 43), (.mv (.tmp 55)), none⟩]
abbrev A41l13 : ACode := (.seq (.reg A41r14 [8, 41, 42, 43, 44]) (.seq (.cond (.tmp 44) [8, 41, 42, 43] .skip [8] (.exit 2)) (.seq (.block 3 A41c18) (.reg A41r19 [8, 41, 42, 43]))))
abbrev A41r20 : List AIns := [⟨(some 56), (.mv (.tmp 8)), none⟩, ⟨(some 4), (.mv (.tmp 56)), none⟩]
def A41 : AFun := ⟨57, 2, [(.tmp 4)], (.seq (.reg A41r1 [0, 1]) (.seq (.dreg A41d2 [[], [0], [0, 1], [0, 1, 2], [], [0, 1, 2, 3, 4], [0, 1, 2, 3, 4, 5], [], [], [7, 8], [0, 1, 2, 3, 4, 5, 6, 7, 8, 9], [0, 1, 2, 3, 4, 5, 6, 7, 8, 9, 10]] [0, 1, 5]) (.seq (.seq (.reg A41r3 [1, 5, 25, 26, 27]) (.block 0 (.loop A41l4))) (.seq (.reg A41r11 [5, 8]) (.seq (.seq (.reg A41r12 [8, 41, 42, 43]) (.block 2 (.loop A41l13))) (.seq (.reg A41r20 [4]) .ret))))))⟩
theorem A41c : compF Try.prog Try.f41 = some A41 := by kernel_rfl
theorem A41k : Callable Try.prog 41 := fun a w => Try.call41 a w
/- estovers/durable.Images$1 -/
abbrev A42r1 : List AIns := [⟨(some 8), (.mv (.tmp 0)), none⟩, ⟨(some 9), (.load false 1 (.tmp 1)), none⟩, ⟨(some 10), (.len (.tmp 9)), none⟩, ⟨(some 11), (.bin .eql (.tmp 8) (.tmp 10)), none⟩]
abbrev A42d2 : List AIns := [⟨(some 12), (.load false 1 (.tmp 2)), none⟩, ⟨(some 13), (.load false 1 (.tmp 3)), none⟩, ⟨(some 14), (.call (.fnc 43) [(.tmp 13)]), none⟩, ⟨(some 15), (.buildS 1 [.nil] 1 [(0, (1, (.tmp 14)))]), none⟩, ⟨(some 16), (.append 1 24 (.tmp 12) (.tmp 15)), none⟩, ⟨none, (.store 1 (.tmp 2) (.tmp 16)), none⟩]
abbrev A42d2a : List AIns := [⟨(some 12), (.load false 1 (.tmp 2)), none⟩, ⟨(some 13), (.load false 1 (.tmp 3)), none⟩, ⟨(some 14), (.call (.fnc 43) [(.tmp 13)]), none⟩]
abbrev A42d2b : List AIns := [⟨(some 15), (.buildS 1 [.nil] 1 [(0, (1, (.tmp 14)))]), none⟩, ⟨(some 16), (.append 1 24 (.tmp 12) (.tmp 15)), none⟩, ⟨none, (.store 1 (.tmp 2) (.tmp 16)), none⟩]
abbrev A42c3 : ACode := (.seq (.dreg A42d2 [[], [], [1], [1, 2], [0, 1, 2, 3], [0, 1, 2, 3, 4]] []) .ret)
abbrev A42r4 : List AIns := [⟨(some 17), (.load false 1 (.tmp 1)), none⟩, ⟨(some 18), (.mv (.tmp 0)), none⟩, ⟨(some 19), (.iaddr 1 (.tmp 17) (.tmp 18)), none⟩, ⟨(some 20), (.load false 1 (.tmp 19)), none⟩, ⟨(some 21), (.len (.tmp 20)), none⟩, ⟨(some 22), (.mv (.cst (.int .i64 0))), none⟩]
abbrev A42r6 : List AIns := [⟨(some 23), (.bin .lss (.tmp 22) (.tmp 21)), none⟩]
abbrev A42r7 : List AIns := [⟨(some 24), (.iaddr 1 (.tmp 20) (.tmp 22)), none⟩, ⟨(some 25), (.load false 1 (.tmp 24)), none⟩, ⟨(some 7), (.mv (.tmp 25)), none⟩]
abbrev A42r8 : List AIns := [⟨(some 26), (.load false 1 (.tmp 3)), none⟩, ⟨(some 27), (.mv (.tmp 7)), none⟩, ⟨(some 28), (.buildS 1 [.nil] 1 [(0, (1, (.tmp 27)))]), none⟩, ⟨(some 29), (.append 1 24 (.tmp 26) (.tmp 28)), none⟩, ⟨none, (.store 1 (.tmp 3) (.tmp 29)), none⟩]
abbrev A42r9 : List AIns := [⟨(some 30), (.load false 1 (.tmp 4)), none⟩, ⟨(some 31), (.mv (.tmp 0)), none⟩, ⟨(some 32), (.bin .add (.tmp 31) (.cst (.int .i64 1))), none⟩, ⟨(some 33), (.call (.tmp 30) [(.tmp 32)]), none⟩]
abbrev A42r10 : List AIns := [⟨(some 34), (.load false 1 (.tmp 3)), none⟩, ⟨(some 35), (.mv (.tmp 0)), none⟩, ⟨(some 36), (.slice 1 (.tmp 34) none (some (.tmp 35))), none⟩, ⟨none, (.store 1 (.tmp 3) (.tmp 36)), none⟩]
abbrev A42c11 : ACode := (.seq (.reg A42r7 [0, 3, 4, 7, 20, 21, 22]) (.seq (.reg A42r8 [0, 3, 4, 20, 21, 22]) (.seq (.reg A42r9 [0, 3, 4, 20, 21, 22]) (.reg A42r10 [0, 3, 4, 20, 21, 22]))))
abbrev A42r12 : List AIns := [⟨(some 37), (.bin .add (.tmp 22) (.cst (.int .i64 1))), none⟩, ⟨(some 22), (.mv (.tmp 37)), none⟩]
abbrev A42l5 : ACode := (.seq (.reg A42r6 [0, 3, 4, 20, 21, 22, 23]) (.seq (.cond (.tmp 23) [0, 3, 4, 20, 21, 22] .skip [] (.exit 0)) (.seq (.block 1 A42c11) (.reg A42r12 [0, 3, 4, 20, 21, 22]))))
def A42 : AFun := ⟨38, 5, [], (.seq (.seq (.reg A42r1 [0, 1, 2, 3, 4, 11]) (.cond (.tmp 11) [2, 3] A42c3 [0, 1, 3, 4] .skip)) (.seq (.reg A42r4 [0, 3, 4, 20, 21, 22]) (.block 0 (.loop A42l5))))⟩
theorem A42c : compF Try.prog Try.f42 = some A42 := by kernel_rfl
theorem A42k : Callable Try.prog 42 := fun a w => Try.call42 a w
/- estovers/durable.copies -/
abbrev A43r1 : List AIns := [⟨(some 2), (.mv (.cst .nil)), none⟩]
abbrev A43r2 : List AIns := [⟨(some 3), (.mv (.cst .nil)), none⟩]
abbrev A43r3 : List AIns := [⟨(some 6), (.mv (.tmp 0)), none⟩, ⟨(some 7), (.len (.tmp 6)), none⟩, ⟨(some 8), (.mv (.cst (.int .i64 0))), none⟩]
abbrev A43r5 : List AIns := [⟨(some 9), (.bin .lss (.tmp 8) (.tmp 7)), none⟩]
abbrev A43r6 : List AIns := [⟨(some 10), (.iaddr 1 (.tmp 6) (.tmp 8)), none⟩, ⟨(some 11), (.load false 1 (.tmp 10)), none⟩, ⟨(some 5), (.mv (.tmp 11)), none⟩]
abbrev A43r7 : List AIns := [⟨(some 12), (.mv (.tmp 3)), none⟩, ⟨(some 13), (.mv (.tmp 5)), none⟩, ⟨(some 14), (.call (.fnc 63) [(.tmp 13)]), none⟩, ⟨(some 15), (.buildS 1 [.nil] 1 [(0, (1, (.tmp 14)))]), none⟩, ⟨(some 16), (.append 1 24 (.tmp 12) (.tmp 15)), none⟩, ⟨(some 3), (.mv (.tmp 16)), none⟩]
abbrev A43c8 : ACode := (.seq (.reg A43r6 [3, 5, 6, 7, 8]) (.reg A43r7 [3, 6, 7, 8]))
abbrev A43r9 : List AIns := [⟨(some 17), (.bin .add (.tmp 8) (.cst (.int .i64 1))), none⟩, ⟨(some 8), (.mv (.tmp 17)), none⟩]
abbrev A43l4 : ACode := (.seq (.reg A43r5 [3, 6, 7, 8, 9]) (.seq (.cond (.tmp 9) [3, 6, 7, 8] .skip [3] (.exit 0)) (.seq (.block 1 A43c8) (.reg A43r9 [3, 6, 7, 8]))))
abbrev A43r10 : List AIns := [⟨(some 18), (.mv (.tmp 3)), none⟩, ⟨(some 2), (.mv (.tmp 18)), none⟩]
def A43 : AFun := ⟨19, 1, [(.tmp 2)], (.seq (.reg A43r1 [0]) (.seq (.reg A43r2 [0, 3]) (.seq (.seq (.reg A43r3 [3, 6, 7, 8]) (.block 0 (.loop A43l4))) (.seq (.reg A43r10 [2]) .ret))))⟩
theorem A43c : compF Try.prog Try.f43 = some A43 := by kernel_rfl
theorem A43k : Callable Try.prog 43 := fun a w => Try.call43 a w
theorem A43p {ds : List D} {r : D} (hl : ds.length ≤ A43.nt) (hw : W Try.prog A43.code (Fin A43.results r) ⟨argEnv 0 ds, fun _ => none⟩) : PCon Try.prog 43 ds r := pcon_of_W mixed Try.func43 A43k A43c hl hw
/- estovers/estoversref11.choices -/
/- estovers/estoversref11.own -/
/- estovers/estoversref11.submitted -/
/- estovers/estoversref11.completed -/
/- (*estovers/durable.state).latest -/
abbrev A48r1 : List AIns := [⟨(some 4), (.mv (.cst .nil)), none⟩]
abbrev A48r2 : List AIns := [⟨(some 6), (.mv (.tmp 0)), none⟩, ⟨(some 7), (.nilck (.tmp 6)), none⟩, ⟨(some 8), (.faddr 1 (.tmp 7)), none⟩, ⟨(some 9), (.load false 1 (.tmp 8)), none⟩, ⟨(some 10), (.mv (.tmp 1)), none⟩, ⟨(some 11), (.iaddr 1 (.tmp 9) (.tmp 10)), none⟩, ⟨(some 12), (.load false 1 (.tmp 11)), none⟩, ⟨(some 5), (.mv (.tmp 12)), none⟩]
abbrev A48r3 : List AIns := [⟨(some 13), (.mv (.tmp 5)), none⟩, ⟨(some 14), (.eqN true (.tmp 13)), none⟩]
abbrev A48r4 : List AIns := [⟨(some 15), (.mv (.tmp 5)), none⟩, ⟨(some 4), (.mv (.tmp 15)), none⟩]
abbrev A48r5 : List AIns := [⟨(some 16), (.mv (.tmp 0)), none⟩, ⟨(some 17), (.nilck (.tmp 16)), none⟩, ⟨(some 18), (.faddr 0 (.tmp 17)), none⟩, ⟨(some 19), (.load false 1 (.tmp 18)), none⟩, ⟨(some 20), (.mv (.tmp 1)), none⟩, ⟨(some 21), (.iaddr 1 (.tmp 19) (.tmp 20)), none⟩, ⟨(some 22), (.load false 1 (.tmp 21)), none⟩, ⟨(some 4), (.mv (.tmp 22)), none⟩]
def A48 : AFun := ⟨23, 2, [(.tmp 4)], (.seq (.reg A48r1 [0, 1]) (.seq (.seq (.reg A48r2 [0, 1, 5]) (.seq (.reg A48r3 [0, 1, 5, 14]) (.cond (.tmp 14) [5] (.seq (.reg A48r4 [4]) .ret) [0, 1] .skip))) (.seq (.reg A48r5 [4]) .ret)))⟩
theorem A48c : compF Try.prog Try.f48 = some A48 := by kernel_rfl
theorem A48k : Callable Try.prog 48 := fun a w => Try.call48 a w
/- estovers/estoversref11.all -/
/- estovers/estoversref11.flushed -/
/- slices.ContainsFunc[[][]byte,[]byte] -/
abbrev A51r1 : List AIns := [⟨(some 4), (.mv (.cst (.bool false))), none⟩]
abbrev A51r2 : List AIns := [⟨(some 5), (.mv (.tmp 0)), none⟩, ⟨(some 6), (.mv (.tmp 1)), none⟩, ⟨(some 7), (.call (.fnc 71) [(.tmp 5), (.tmp 6)]), none⟩, ⟨(some 8), (.bin .geq (.tmp 7) (.cst (.int .i64 0))), none⟩, ⟨(some 4), (.mv (.tmp 8)), none⟩]
def A51 : AFun := ⟨9, 2, [(.tmp 4)], (.seq (.reg A51r1 [0, 1]) (.seq (.reg A51r2 [4]) .ret))⟩
theorem A51c : compF Try.prog Try.f51 = some A51 := by kernel_rfl
theorem A51k : Callable Try.prog 51 := fun a w => Try.call51 a w
theorem A51p {ds : List D} {r : D} (hl : ds.length ≤ A51.nt) (hw : W Try.prog A51.code (Fin A51.results r) ⟨argEnv 0 ds, fun _ => none⟩) : PCon Try.prog 51 ds r := pcon_of_W mixed Try.func51 A51k A51c hl hw
/- estovers/durable.Allows$1 -/
/- bytes.Equal -/
abbrev A53r1 : List AIns := [⟨(some 4), (.mv (.cst (.bool false))), none⟩]
abbrev A53r2 : List AIns := [⟨(some 5), (.mv (.tmp 0)), none⟩, ⟨(some 6), (.strB (.tmp 5)), none⟩, ⟨(some 7), (.mv (.tmp 1)), none⟩, ⟨(some 8), (.strB (.tmp 7)), none⟩, ⟨(some 9), (.bin .eql (.tmp 6) (.tmp 8)), none⟩, ⟨(some 4), (.mv (.tmp 9)), none⟩]
def A53 : AFun := ⟨10, 2, [(.tmp 4)], (.seq (.reg A53r1 [0, 1]) (.seq (.reg A53r2 [4]) .ret))⟩
theorem A53c : compF Try.prog Try.f53 = some A53 := by kernel_rfl
theorem A53k : Callable Try.prog 53 := fun a w => Try.call53 a w
theorem A53p {ds : List D} {r : D} (hl : ds.length ≤ A53.nt) (hw : W Try.prog A53.code (Fin A53.results r) ⟨argEnv 0 ds, fun _ => none⟩) : PCon Try.prog 53 ds r := pcon_of_W mixed Try.func53 A53k A53c hl hw
/- estovers/estoversref11.has -/
/- estovers/estoverstop.dPage -/
abbrev A55r1 : List AIns := [⟨(some 2), (.mv (.cst .nil)), none⟩]
abbrev A55r2 : List AIns := [⟨(some 3), (.mv (.cst .nil)), none⟩]
abbrev A55r3 : List AIns := [⟨(some 4), (.mv (.cst (.int .i64 0))), none⟩]
abbrev A55r5 : List AIns := [⟨(some 5), (.mv (.tmp 4)), none⟩, ⟨(some 6), (.bin .lss (.tmp 5) (.cst (.int .i64 32))), none⟩]
abbrev A55r6 : List AIns := [⟨(some 9), (.mv (.tmp 3)), none⟩, ⟨(some 10), (.mv (.tmp 0)), none⟩, ⟨(some 11), (.buildS 1 [(.int .u8 0)] 1 [(0, (1, (.tmp 10)))]), none⟩, ⟨(some 12), (.append 1 1 (.tmp 9) (.tmp 11)), none⟩, ⟨(some 3), (.mv (.tmp 12)), none⟩]
abbrev A55r7 : List AIns := [⟨(some 7), (.mv (.tmp 4)), none⟩, ⟨(some 8), (.bin .add (.tmp 7) (.cst (.int .i64 1))), none⟩, ⟨(some 4), (.mv (.tmp 8)), none⟩]
abbrev A55l4 : ACode := (.seq (.seq (.reg A55r5 [0, 3, 4, 6]) (.cond (.tmp 6) [0, 3, 4] .skip [3] (.exit 0))) (.seq (.block 1 (.reg A55r6 [0, 3, 4])) (.reg A55r7 [0, 3, 4])))
abbrev A55r8 : List AIns := [⟨(some 13), (.mv (.tmp 3)), none⟩, ⟨(some 2), (.mv (.tmp 13)), none⟩]
def A55 : AFun := ⟨14, 1, [(.tmp 2)], (.seq (.reg A55r1 [0]) (.seq (.reg A55r2 [0, 3]) (.seq (.seq (.reg A55r3 [0, 3, 4]) (.block 0 (.loop A55l4))) (.seq (.reg A55r8 [2]) .ret))))⟩
theorem A55c : compF Try.prog Try.f55 = some A55 := by kernel_rfl
theorem A55k : Callable Try.prog 55 := fun a w => Try.call55 a w
theorem A55p {ds : List D} {r : D} (hl : ds.length ≤ A55.nt) (hw : W Try.prog A55.code (Fin A55.results r) ⟨argEnv 0 ds, fun _ => none⟩) : PCon Try.prog 55 ds r := pcon_of_W mixed Try.func55 A55k A55c hl hw
/- estovers/device.New -/
abbrev A56r1 : List AIns := [⟨(some 4), (.alloc [(.int .i64 0), (.int .i64 0), .nil, .nil, .nil]), none⟩, ⟨(some 5), (.mv (.cst (.int .i64 0))), none⟩]
abbrev A56r2 : List AIns := [⟨(some 8), (.mv (.tmp 0)), none⟩, ⟨(some 9), (.mv (.tmp 1)), none⟩, ⟨(some 10), (.build [(.int .i64 0), (.int .i64 0), .nil, .nil, .nil] [(0, (1, (.tmp 8))), (2, (1, (.tmp 9)))]), none⟩, ⟨(some 6), (.alloc [(.int .i64 0), (.int .i64 0), .nil, .nil, .nil]), none⟩, ⟨none, (.store 5 (.tmp 6) (.tmp 10)), none⟩]
abbrev A56r3 : List AIns := [⟨(some 11), (.load true 5 (.tmp 6)), none⟩, ⟨(some 12), (.call (.fnc 60) [(.tmp 11)]), none⟩, ⟨(some 7), (.mv (.tmp 12)), none⟩]
abbrev A56r4 : List AIns := [⟨(some 13), (.mv (.tmp 7)), none⟩, ⟨(some 14), (.bin .neq (.tmp 13) (.cst (.int .i64 0))), none⟩]
abbrev A56r5 : List AIns := [⟨(some 15), (.build [(.int .i64 0), (.int .i64 0), .nil, .nil, .nil] []), none⟩, ⟨(some 16), (.mv (.tmp 7)), none⟩, ⟨none, (.store 5 (.tmp 4) (.tmp 15)), none⟩, ⟨(some 5), (.mv (.tmp 16)), none⟩]
abbrev A56r6 : List AIns := [⟨(some 17), (.load true 5 (.tmp 6)), none⟩, ⟨(some 18), (.call (.fnc 61) [(.tmp 17)]), none⟩, ⟨none, (.store 5 (.tmp 4) (.tmp 18)), none⟩, ⟨(some 5), (.mv (.cst (.int .i64 0))), none⟩]
def A56 : AFun := ⟨19, 2, [(.cell 4 true 5), (.tmp 5)], (.seq (.reg A56r1 [0, 1, 4]) (.seq (.reg A56r2 [4, 6]) (.seq (.seq (.reg A56r3 [4, 6, 7]) (.seq (.reg A56r4 [4, 6, 7, 14]) (.cond (.tmp 14) [4, 7] (.seq (.reg A56r5 [4, 5]) .ret) [4, 6] .skip))) (.seq (.reg A56r6 [4, 5]) .ret))))⟩
theorem A56c : compF Try.prog Try.f56 = some A56 := by kernel_rfl
theorem A56k : Callable Try.prog 56 := fun a w => Try.call56 a w
theorem A56p {ds : List D} {r : D} (hl : ds.length ≤ A56.nt) (hw : W Try.prog A56.code (Fin A56.results r) ⟨argEnv 0 ds, fun _ => none⟩) : PCon Try.prog 56 ds r := pcon_of_W mixed Try.func56 A56k A56c hl hw
/- estovers/device.Submit -/
abbrev A57r1 : List AIns := [⟨(some 4), (.box (.tmp 0)), none⟩, ⟨(some 8), (.alloc [(.int .i64 0), (.int .i64 0), .nil, .nil, .nil]), none⟩, ⟨(some 9), (.mv (.cst (.int .i64 0))), none⟩, ⟨(some 10), (.mv (.cst (.int .i64 0))), none⟩]
abbrev A57d2 : List AIns := [⟨(some 14), (.faddr 1 (.tmp 4)), none⟩, ⟨(some 15), (.load false 1 (.tmp 14)), none⟩, ⟨(some 16), (.mv (.tmp 1)), none⟩, ⟨(some 17), (.mv (.tmp 2)), none⟩, ⟨(some 18), (.mv (.tmp 3)), none⟩, ⟨(some 19), (.call (.fnc 63) [(.tmp 18)]), none⟩, ⟨(some 20), (.build [(.int .i64 0), (.int .i64 0), (.int .i64 0), .nil] [(0, (1, (.tmp 15))), (1, (1, (.tmp 16))), (2, (1, (.tmp 17))), (3, (1, (.tmp 19)))]), none⟩, ⟨(some 11), (.alloc [(.int .i64 0), (.int .i64 0), (.int .i64 0), .nil]), none⟩, ⟨none, (.store 4 (.tmp 11) (.tmp 20)), none⟩]
abbrev A57d2a : List AIns := [⟨(some 14), (.faddr 1 (.tmp 4)), none⟩, ⟨(some 15), (.load false 1 (.tmp 14)), none⟩, ⟨(some 16), (.mv (.tmp 1)), none⟩, ⟨(some 17), (.mv (.tmp 2)), none⟩, ⟨(some 18), (.mv (.tmp 3)), none⟩, ⟨(some 19), (.call (.fnc 63) [(.tmp 18)]), none⟩, ⟨(some 20), (.build [(.int .i64 0), (.int .i64 0), (.int .i64 0), .nil] [(0, (1, (.tmp 15))), (1, (1, (.tmp 16))), (2, (1, (.tmp 17))), (3, (1, (.tmp 19)))]), none⟩]
abbrev A57d2b : List AIns := [⟨(some 11), (.alloc [(.int .i64 0), (.int .i64 0), (.int .i64 0), .nil]), none⟩, ⟨none, (.store 4 (.tmp 11) (.tmp 20)), none⟩]
abbrev A57r3 : List AIns := [⟨(some 21), (.load true 5 (.tmp 4)), none⟩, ⟨(some 22), (.call (.fnc 60) [(.tmp 21)]), none⟩, ⟨(some 12), (.mv (.tmp 22)), none⟩]
abbrev A57r4 : List AIns := [⟨(some 23), (.mv (.tmp 12)), none⟩, ⟨(some 24), (.bin .eql (.tmp 23) (.cst (.int .i64 0))), none⟩]
abbrev A57r5 : List AIns := [⟨(some 25), (.load true 5 (.tmp 4)), none⟩, ⟨(some 26), (.load true 4 (.tmp 11)), none⟩, ⟨(some 27), (.call (.fnc 72) [(.tmp 25), (.tmp 26)]), none⟩, ⟨(some 12), (.mv (.tmp 27)), none⟩]
abbrev A57r6 : List AIns := [⟨(some 29), (.mv (.tmp 12)), none⟩, ⟨(some 30), (.bin .neq (.tmp 29) (.cst (.int .i64 0))), none⟩, ⟨(some 28), (.mv (.tmp 30)), none⟩]
abbrev A57r7 : List AIns := [⟨(some 32), (.faddr 1 (.tmp 4)), none⟩, ⟨(some 33), (.load false 1 (.tmp 32)), none⟩, ⟨(some 34), (.bin .eql (.tmp 33) (.cst (.int .i64 1099511627776))), none⟩, ⟨(some 31), (.mv (.tmp 34)), none⟩]
abbrev A57r8 : List AIns := [⟨(some 12), (.mv (.cst (.int .i64 9))), none⟩]
abbrev A57r9 : List AIns := [⟨(some 36), (.faddr 4 (.tmp 4)), none⟩, ⟨(some 37), (.load false 1 (.tmp 36)), none⟩, ⟨(some 38), (.len (.tmp 37)), none⟩, ⟨(some 39), (.faddr 0 (.tmp 4)), none⟩, ⟨(some 40), (.load false 1 (.tmp 39)), none⟩, ⟨(some 41), (.bin .eql (.tmp 38) (.tmp 40)), none⟩, ⟨(some 35), (.mv (.tmp 41)), none⟩]
abbrev A57r10 : List AIns := [⟨(some 12), (.mv (.cst (.int .i64 8))), none⟩]
abbrev A57c11 : ACode := (.seq (.reg A57r9 [4, 8, 11, 12, 35]) (.cond (.tmp 35) [4, 8, 11] (.reg A57r10 [4, 8, 11, 12]) [4, 8, 11, 12] .skip))
abbrev A57c12 : ACode := (.seq (.reg A57r7 [4, 8, 11, 12, 31]) (.cond (.tmp 31) [4, 8, 11] (.reg A57r8 [4, 8, 11, 12]) [4, 8, 11, 12] A57c11))
abbrev A57c13 : ACode := (.seq (.reg A57r6 [4, 8, 11, 12, 28]) (.cond (.tmp 28) [4, 8, 11, 12] .skip [4, 8, 11, 12] A57c12))
abbrev A57r14 : List AIns := [⟨(some 42), (.mv (.tmp 12)), none⟩, ⟨(some 43), (.bin .neq (.tmp 42) (.cst (.int .i64 0))), none⟩]
abbrev A57r15 : List AIns := [⟨(some 44), (.build [(.int .i64 0), (.int .i64 0), .nil, .nil, .nil] []), none⟩, ⟨(some 45), (.mv (.tmp 12)), none⟩, ⟨none, (.store 5 (.tmp 8) (.tmp 44)), none⟩, ⟨(some 9), (.mv (.cst (.int .i64 0))), none⟩, ⟨(some 10), (.mv (.tmp 45)), none⟩]
abbrev A57r16 : List AIns := [⟨(some 46), (.load true 5 (.tmp 4)), none⟩, ⟨(some 47), (.call (.fnc 61) [(.tmp 46)]), none⟩, ⟨(some 13), (.alloc [(.int .i64 0), (.int .i64 0), .nil, .nil, .nil]), none⟩, ⟨none, (.store 5 (.tmp 13) (.tmp 47)), none⟩]
abbrev A57r17 : List AIns := [⟨(some 48), (.faddr 3 (.tmp 11)), none⟩, ⟨(some 49), (.load false 1 (.tmp 48)), none⟩, ⟨(some 50), (.len (.tmp 49)), none⟩, ⟨(some 51), (.bin .eql (.tmp 50) (.cst (.int .i64 0))), none⟩]
abbrev A57r18 : List AIns := [⟨(some 52), (.faddr 3 (.tmp 11)), none⟩, ⟨none, (.store 1 (.tmp 52) (.cst .nil)), none⟩]
abbrev A57r19 : List AIns := [⟨(some 53), (.faddr 4 (.tmp 13)), none⟩, ⟨(some 54), (.load false 1 (.tmp 53)), none⟩, ⟨(some 55), (.load true 4 (.tmp 11)), none⟩, ⟨(some 56), (.buildS 4 [(.int .i64 0), (.int .i64 0), (.int .i64 0), .nil] 1 [(0, (4, (.tmp 55)))]), none⟩, ⟨(some 57), (.append 4 48 (.tmp 54) (.tmp 56)), none⟩, ⟨(some 58), (.faddr 4 (.tmp 13)), none⟩, ⟨none, (.store 1 (.tmp 58) (.tmp 57)), none⟩]
abbrev A57r20 : List AIns := [⟨(some 59), (.faddr 1 (.tmp 13)), none⟩, ⟨(some 60), (.load false 1 (.tmp 59)), none⟩, ⟨(some 61), (.bin .add (.tmp 60) (.cst (.int .i64 1))), none⟩, ⟨(some 62), (.faddr 1 (.tmp 13)), none⟩, ⟨none, (.store 1 (.tmp 62) (.tmp 61)), none⟩]
abbrev A57o21 : List AIns := [⟨(some 63), (.load true 5 (.tmp 13)), none⟩, ⟨(some 64), (.faddr 0 (.tmp 11)), none⟩, ⟨(some 65), (.load false 1 (.tmp 64)), none⟩, ⟨none, (.store 5 (.tmp 8) (.tmp 63)), none⟩, ⟨(some 9), (.mv (.tmp 65)), none⟩, ⟨(some 10), (.mv (.cst (.int .i64 0))), none⟩]
def A57 : AFun := ⟨66, 4, [(.cell 8 true 5), (.tmp 9), (.tmp 10)], (.seq (.reg A57r1 [1, 2, 3, 4, 8]) (.seq (.dreg A57d2 [[], [0], [], [], [], [4], [0, 1, 2, 3, 4, 5], [], [0, 1, 2, 3, 4, 5, 6, 7]] [4, 8, 11]) (.seq (.reg A57r3 [4, 8, 11, 12]) (.seq (.seq (.reg A57r4 [4, 8, 11, 12, 24]) (.cond (.tmp 24) [4, 8, 11] (.reg A57r5 [4, 8, 11, 12]) [4, 8, 11, 12] .skip)) (.seq (.block 0 A57c13) (.seq (.seq (.reg A57r14 [4, 8, 11, 12, 43]) (.cond (.tmp 43) [8, 12] (.seq (.reg A57r15 [8, 9, 10]) .ret) [4, 8, 11] .skip)) (.seq (.reg A57r16 [8, 11, 13]) (.seq (.seq (.reg A57r17 [8, 11, 13, 51]) (.cond (.tmp 51) [8, 11, 13] (.reg A57r18 [8, 11, 13]) [8, 11, 13] .skip)) (.seq (.reg A57r19 [8, 11, 13]) (.seq (.reg A57r20 [8, 11, 13]) (.seq (.oreg A57o21 [[], [], [1], [0], [0, 1, 2, 3], [0, 1, 2, 3, 4]] [8, 9, 10]) .ret)))))))))))⟩
theorem A57c : compF Try.prog Try.f57 = some A57 := by kernel_rfl
theorem A57k : Callable Try.prog 57 := fun a w => Try.call57 a w
theorem A57p {ds : List D} {r : D} (hl : ds.length ≤ A57.nt) (hw : W Try.prog A57.code (Fin A57.results r) ⟨argEnv 0 ds, fun _ => none⟩) : PCon Try.prog 57 ds r := pcon_of_W mixed Try.func57 A57k A57c hl hw
/- estovers/device.Complete -/
abbrev A58r1 : List AIns := [⟨(some 3), (.box (.tmp 0)), none⟩, ⟨(some 6), (.alloc [(.int .i64 0), (.int .i64 0), .nil, .nil, .nil]), none⟩, ⟨(some 7), (.alloc [(.int .i64 0), (.int .i64 0), (.int .i64 0), .nil]), none⟩, ⟨(some 8), (.mv (.cst (.int .i64 0))), none⟩]
abbrev A58r2 : List AIns := [⟨(some 17), (.load true 5 (.tmp 3)), none⟩, ⟨(some 18), (.call (.fnc 60) [(.tmp 17)]), none⟩, ⟨(some 9), (.mv (.tmp 18)), none⟩]
abbrev A58r3 : List AIns := [⟨(some 19), (.mv (.tmp 9)), none⟩, ⟨(some 20), (.bin .neq (.tmp 19) (.cst (.int .i64 0))), none⟩]
abbrev A58r4 : List AIns := [⟨(some 21), (.build [(.int .i64 0), (.int .i64 0), .nil, .nil, .nil] []), none⟩, ⟨(some 22), (.build [(.int .i64 0), (.int .i64 0), (.int .i64 0), .nil] []), none⟩, ⟨(some 23), (.mv (.tmp 9)), none⟩, ⟨none, (.store 5 (.tmp 6) (.tmp 21)), none⟩, ⟨none, (.store 4 (.tmp 7) (.tmp 22)), none⟩, ⟨(some 8), (.mv (.tmp 23)), none⟩]
abbrev A58r5 : List AIns := [⟨(some 24), (.mv (.tmp 1)), none⟩, ⟨(some 25), (.bin .lss (.tmp 24) (.cst (.int .i64 0))), none⟩, ⟨(some 26), (.mv (.tmp 25)), none⟩, ⟨(some 27), (.mv (.tmp 1)), (some (26, false))⟩, ⟨(some 28), (.faddr 4 (.tmp 3)), (some (26, false))⟩, ⟨(some 29), (.load false 1 (.tmp 28)), (some (26, false))⟩, ⟨(some 30), (.len (.tmp 29)), (some (26, false))⟩, ⟨(some 31), (.bin .geq (.tmp 27) (.tmp 30)), (some (26, false))⟩, ⟨(some 32), (.pick (.tmp 26) (.cst (.bool true)) (.tmp 31)), none⟩]
abbrev A58r6 : List AIns := [⟨(some 33), (.build [(.int .i64 0), (.int .i64 0), .nil, .nil, .nil] []), none⟩, ⟨(some 34), (.build [(.int .i64 0), (.int .i64 0), (.int .i64 0), .nil] []), none⟩, ⟨none, (.store 5 (.tmp 6) (.tmp 33)), none⟩, ⟨none, (.store 4 (.tmp 7) (.tmp 34)), none⟩, ⟨(some 8), (.mv (.cst (.int .i64 2))), none⟩]
abbrev A58r7 : List AIns := [⟨(some 35), (.load true 5 (.tmp 3)), none⟩, ⟨(some 36), (.call (.fnc 61) [(.tmp 35)]), none⟩, ⟨(some 10), (.alloc [(.int .i64 0), (.int .i64 0), .nil, .nil, .nil]), none⟩, ⟨none, (.store 5 (.tmp 10) (.tmp 36)), none⟩]
abbrev A58r8 : List AIns := [⟨(some 37), (.faddr 4 (.tmp 10)), none⟩, ⟨(some 38), (.load false 1 (.tmp 37)), none⟩, ⟨(some 39), (.mv (.tmp 1)), none⟩, ⟨(some 40), (.iaddr 4 (.tmp 38) (.tmp 39)), none⟩, ⟨(some 41), (.load true 4 (.tmp 40)), none⟩, ⟨(some 11), (.alloc [(.int .i64 0), (.int .i64 0), (.int .i64 0), .nil]), none⟩, ⟨none, (.store 4 (.tmp 11) (.tmp 41)), none⟩]
abbrev A58r9 : List AIns := [⟨(some 42), (.faddr 4 (.tmp 10)), none⟩, ⟨(some 43), (.load false 1 (.tmp 42)), none⟩, ⟨(some 44), (.mv (.tmp 1)), none⟩, ⟨(some 45), (.mv (.tmp 1)), none⟩, ⟨(some 46), (.bin .add (.tmp 45) (.cst (.int .i64 1))), none⟩, ⟨(some 47), (.call (.fnc 73) [(.tmp 43), (.tmp 44), (.tmp 46)]), none⟩, ⟨(some 48), (.faddr 4 (.tmp 10)), none⟩, ⟨none, (.store 1 (.tmp 48) (.tmp 47)), none⟩]
abbrev A58r10 : List AIns := [⟨(some 49), (.mv (.tmp 2)), none⟩, ⟨(some 50), (.un .not (.tmp 49)), none⟩]
abbrev A58o11 : List AIns := [⟨(some 51), (.load true 5 (.tmp 10)), none⟩, ⟨(some 52), (.load true 4 (.tmp 11)), none⟩, ⟨none, (.store 5 (.tmp 6) (.tmp 51)), none⟩, ⟨none, (.store 4 (.tmp 7) (.tmp 52)), none⟩, ⟨(some 8), (.mv (.cst (.int .i64 0))), none⟩]
abbrev A58c12 : ACode := (.seq (.oreg A58o11 [[], [], [0], [0, 1, 2], [0, 1, 2, 3]] [6, 7, 8]) .ret)
abbrev A58r13 : List AIns := [⟨(some 53), (.faddr 1 (.tmp 11)), none⟩, ⟨(some 54), (.load false 1 (.tmp 53)), none⟩]
abbrev A58r14 : List AIns := [⟨(some 56), (.bin .eql (.tmp 54) (.cst (.int .i64 1))), none⟩, ⟨(some 55), (.mv (.tmp 56)), none⟩]
abbrev A58r15 : List AIns := [⟨(some 57), (.load true 5 (.tmp 10)), none⟩, ⟨(some 58), (.faddr 2 (.tmp 11)), none⟩, ⟨(some 59), (.load false 1 (.tmp 58)), none⟩, ⟨(some 60), (.call (.fnc 64) [(.tmp 57), (.tmp 59)]), none⟩, ⟨(some 61), (.faddr 3 (.tmp 11)), none⟩, ⟨none, (.store 1 (.tmp 61) (.tmp 60)), none⟩]
abbrev A58r16 : List AIns := [⟨(some 63), (.bin .eql (.tmp 54) (.cst (.int .i64 2))), none⟩, ⟨(some 62), (.mv (.tmp 63)), none⟩]
abbrev A58d17 : List AIns := [⟨(some 64), (.faddr 2 (.tmp 11)), none⟩, ⟨(some 65), (.load false 1 (.tmp 64)), none⟩, ⟨(some 66), (.faddr 3 (.tmp 11)), none⟩, ⟨(some 67), (.load false 1 (.tmp 66)), none⟩, ⟨(some 68), (.call (.fnc 63) [(.tmp 67)]), none⟩, ⟨(some 69), (.build [(.int .i64 0), .nil] [(0, (1, (.tmp 65))), (1, (1, (.tmp 68)))]), none⟩, ⟨(some 12), (.alloc [(.int .i64 0), .nil]), none⟩, ⟨none, (.store 2 (.tmp 12) (.tmp 69)), none⟩]
abbrev A58d17a : List AIns := [⟨(some 64), (.faddr 2 (.tmp 11)), none⟩, ⟨(some 65), (.load false 1 (.tmp 64)), none⟩, ⟨(some 66), (.faddr 3 (.tmp 11)), none⟩, ⟨(some 67), (.load false 1 (.tmp 66)), none⟩, ⟨(some 68), (.call (.fnc 63) [(.tmp 67)]), none⟩, ⟨(some 69), (.build [(.int .i64 0), .nil] [(0, (1, (.tmp 65))), (1, (1, (.tmp 68)))]), none⟩]
abbrev A58d17b : List AIns := [⟨(some 12), (.alloc [(.int .i64 0), .nil]), none⟩, ⟨none, (.store 2 (.tmp 12) (.tmp 69)), none⟩]
abbrev A58r18 : List AIns := [⟨(some 71), (.load true 5 (.tmp 10)), none⟩, ⟨(some 72), (.faddr 2 (.tmp 11)), none⟩, ⟨(some 73), (.load false 1 (.tmp 72)), none⟩, ⟨(some 74), (.call (.fnc 74) [(.tmp 71), (.tmp 73)]), none⟩, ⟨(some 70), (.mv (.tmp 74)), none⟩, ⟨(some 75), (.extract 0 (.tmp 70)), none⟩, ⟨(some 76), (.extract 1 (.tmp 70)), none⟩, ⟨(some 13), (.mv (.tmp 75)), none⟩, ⟨(some 14), (.mv (.tmp 76)), none⟩]
abbrev A58r19 : List AIns := [⟨(some 77), (.mv (.tmp 14)), none⟩]
abbrev A58r20 : List AIns := [⟨(some 78), (.faddr 3 (.tmp 10)), none⟩, ⟨(some 79), (.load false 1 (.tmp 78)), none⟩, ⟨(some 80), (.mv (.tmp 13)), none⟩, ⟨(some 81), (.load true 2 (.tmp 12)), none⟩, ⟨(some 82), (.iaddr 2 (.tmp 79) (.tmp 80)), none⟩, ⟨none, (.store 2 (.tmp 82) (.tmp 81)), none⟩]
abbrev A58r21 : List AIns := [⟨(some 83), (.faddr 3 (.tmp 10)), none⟩, ⟨(some 84), (.load false 1 (.tmp 83)), none⟩, ⟨(some 85), (.mv (.tmp 13)), none⟩, ⟨(some 86), (.load true 2 (.tmp 12)), none⟩, ⟨(some 87), (.buildS 2 [(.int .i64 0), .nil] 1 [(0, (2, (.tmp 86)))]), none⟩, ⟨(some 88), (.call (.fnc 75) [(.tmp 84), (.tmp 85), (.tmp 87)]), none⟩, ⟨(some 89), (.faddr 3 (.tmp 10)), none⟩, ⟨none, (.store 1 (.tmp 89) (.tmp 88)), none⟩]
abbrev A58c22 : ACode := (.seq (.dreg A58d17 [[], [0], [], [2], [2, 3], [0, 1, 2, 3, 4], [], [0, 1, 2, 3, 4, 5, 6]] [6, 7, 10, 11, 12]) (.seq (.reg A58r18 [6, 7, 10, 11, 12, 13, 14]) (.seq (.reg A58r19 [6, 7, 10, 11, 12, 13, 77]) (.cond (.tmp 77) [6, 7, 10, 11, 12, 13] (.reg A58r20 [6, 7, 10, 11]) [6, 7, 10, 11, 12, 13] (.reg A58r21 [6, 7, 10, 11])))))
abbrev A58r23 : List AIns := [⟨(some 91), (.bin .eql (.tmp 54) (.cst (.int .i64 3))), none⟩, ⟨(some 90), (.mv (.tmp 91)), none⟩]
abbrev A58r24 : List AIns := [⟨(some 92), (.faddr 3 (.tmp 10)), none⟩, ⟨(some 93), (.load false 1 (.tmp 92)), none⟩, ⟨(some 94), (.len (.tmp 93)), none⟩, ⟨(some 95), (.mv (.cst (.int .i64 0))), none⟩]
abbrev A58r26 : List AIns := [⟨(some 96), (.bin .lss (.tmp 95) (.tmp 94)), none⟩]
abbrev A58r27 : List AIns := [⟨(some 97), (.iaddr 2 (.tmp 93) (.tmp 95)), none⟩, ⟨(some 98), (.load true 2 (.tmp 97)), none⟩, ⟨(some 16), (.alloc [(.int .i64 0), .nil]), none⟩, ⟨none, (.store 2 (.tmp 16) (.tmp 98)), none⟩]
abbrev A58r28 : List AIns := [⟨(some 99), (.faddr 2 (.tmp 10)), none⟩, ⟨(some 100), (.load false 1 (.tmp 99)), none⟩, ⟨(some 101), (.faddr 0 (.tmp 16)), none⟩, ⟨(some 102), (.load false 1 (.tmp 101)), none⟩, ⟨(some 103), (.faddr 1 (.tmp 16)), none⟩, ⟨(some 104), (.load false 1 (.tmp 103)), none⟩, ⟨(some 105), (.iaddr 1 (.tmp 100) (.tmp 102)), none⟩, ⟨none, (.store 1 (.tmp 105) (.tmp 104)), none⟩]
abbrev A58c29 : ACode := (.seq (.reg A58r27 [6, 7, 10, 11, 16, 93, 94, 95]) (.reg A58r28 [6, 7, 10, 11, 93, 94, 95]))
abbrev A58r30 : List AIns := [⟨(some 106), (.bin .add (.tmp 95) (.cst (.int .i64 1))), none⟩, ⟨(some 95), (.mv (.tmp 106)), none⟩]
abbrev A58l25 : ACode := (.seq (.reg A58r26 [6, 7, 10, 11, 93, 94, 95, 96]) (.seq (.cond (.tmp 96) [6, 7, 10, 11, 93, 94, 95] .skip [6, 7, 10, 11] (.exit 1)) (.seq (.block 2 A58c29) (.reg A58r30 [6, 7, 10, 11, 93, 94, 95]))))
abbrev A58r31 : List AIns := [⟨(some 107), (.faddr 3 (.tmp 10)), none⟩, ⟨none, (.store 1 (.tmp 107) (.cst .nil)), none⟩]
abbrev A58c32 : ACode := (.seq (.seq (.reg A58r24 [6, 7, 10, 11, 93, 94, 95]) (.block 1 (.loop A58l25))) (.reg A58r31 [6, 7, 10, 11]))
abbrev A58c33 : ACode := (.seq (.reg A58r23 [6, 7, 10, 11, 90]) (.cond (.tmp 90) [6, 7, 10, 11] A58c32 [6, 7, 10, 11] .skip))
abbrev A58c34 : ACode := (.seq (.reg A58r16 [6, 7, 10, 11, 54, 62]) (.cond (.tmp 62) [6, 7, 10, 11] A58c22 [6, 7, 10, 11, 54] A58c33))
abbrev A58c35 : ACode := (.seq (.reg A58r14 [6, 7, 10, 11, 54, 55]) (.cond (.tmp 55) [6, 7, 10, 11] (.reg A58r15 [6, 7, 10, 11]) [6, 7, 10, 11, 54] A58c34))
abbrev A58o36 : List AIns := [⟨(some 108), (.load true 5 (.tmp 10)), none⟩, ⟨(some 109), (.load true 4 (.tmp 11)), none⟩, ⟨none, (.store 5 (.tmp 6) (.tmp 108)), none⟩, ⟨none, (.store 4 (.tmp 7) (.tmp 109)), none⟩, ⟨(some 8), (.mv (.cst (.int .i64 0))), none⟩]
def A58 : AFun := ⟨110, 3, [(.cell 6 true 5), (.cell 7 true 4), (.tmp 8)], (.seq (.reg A58r1 [1, 2, 3, 6, 7]) (.seq (.seq (.reg A58r2 [1, 2, 3, 6, 7, 9]) (.seq (.reg A58r3 [1, 2, 3, 6, 7, 9, 20]) (.cond (.tmp 20) [6, 7, 9] (.seq (.reg A58r4 [6, 7, 8]) .ret) [1, 2, 3, 6, 7] .skip))) (.seq (.seq (.reg A58r5 [1, 2, 3, 6, 7, 32]) (.cond (.tmp 32) [6, 7] (.seq (.reg A58r6 [6, 7, 8]) .ret) [1, 2, 3, 6, 7] .skip)) (.seq (.reg A58r7 [1, 2, 6, 7, 10]) (.seq (.reg A58r8 [1, 2, 6, 7, 10, 11]) (.seq (.reg A58r9 [2, 6, 7, 10, 11]) (.seq (.seq (.reg A58r10 [6, 7, 10, 11, 50]) (.cond (.tmp 50) [6, 7, 10, 11] A58c12 [6, 7, 10, 11] .skip)) (.seq (.seq (.reg A58r13 [6, 7, 10, 11, 54]) (.block 0 A58c35)) (.seq (.oreg A58o36 [[], [], [0], [0, 1, 2], [0, 1, 2, 3]] [6, 7, 8]) .ret)))))))))⟩
theorem A58c : compF Try.prog Try.f58 = some A58 := by kernel_rfl
theorem A58k : Callable Try.prog 58 := fun a w => Try.call58 a w
theorem A58p {ds : List D} {r : D} (hl : ds.length ≤ A58.nt) (hw : W Try.prog A58.code (Fin A58.results r) ⟨argEnv 0 ds, fun _ => none⟩) : PCon Try.prog 58 ds r := pcon_of_W mixed Try.func58 A58k A58c hl hw
/- estovers/estoverstop.dHappened -/
abbrev A59r1 : List AIns := [⟨(some 4), (.box (.tmp 1)), none⟩, ⟨(some 6), (.mv (.cst .nil)), none⟩]
abbrev A59r2 : List AIns := [⟨(some 9), (.faddr 1 (.tmp 4)), none⟩, ⟨(some 10), (.load false 1 (.tmp 9)), none⟩, ⟨(some 11), (.bin .eql (.tmp 10) (.cst (.int .i64 3))), none⟩, ⟨(some 12), (.mv (.tmp 11)), none⟩, ⟨(some 13), (.mv (.tmp 2)), (some (12, true))⟩, ⟨(some 14), (.pick (.tmp 12) (.tmp 13) (.cst (.bool false))), none⟩]
abbrev A59r3 : List AIns := [⟨(some 15), (.mv (.tmp 0)), none⟩, ⟨(some 16), (.build [(.int .i64 0), (.int .i64 0), (.int .i64 0), .nil] [(0, (1, (.cst (.int .i64 3))))]), none⟩, ⟨(some 17), (.buildS 4 [(.int .i64 0), (.int .i64 0), (.int .i64 0), .nil] 1 [(0, (4, (.tmp 16)))]), none⟩, ⟨(some 18), (.append 4 48 (.tmp 15) (.tmp 17)), none⟩, ⟨(some 6), (.mv (.tmp 18)), none⟩]
abbrev A59r4 : List AIns := [⟨(some 19), (.faddr 1 (.tmp 4)), none⟩, ⟨(some 20), (.load false 1 (.tmp 19)), none⟩, ⟨(some 21), (.bin .neq (.tmp 20) (.cst (.int .i64 2))), none⟩]
abbrev A59r5 : List AIns := [⟨(some 22), (.mv (.tmp 0)), none⟩, ⟨(some 6), (.mv (.tmp 22)), none⟩]
abbrev A59r6 : List AIns := [⟨(some 23), (.mv (.tmp 2)), none⟩]
abbrev A59r7 : List AIns := [⟨(some 24), (.mv (.tmp 0)), none⟩, ⟨(some 25), (.faddr 0 (.tmp 4)), none⟩, ⟨(some 26), (.load false 1 (.tmp 25)), none⟩, ⟨(some 27), (.build [(.int .i64 0), (.int .i64 0), (.int .i64 0), .nil] [(0, (1, (.cst (.int .i64 2)))), (1, (1, (.tmp 26)))]), none⟩, ⟨(some 28), (.buildS 4 [(.int .i64 0), (.int .i64 0), (.int .i64 0), .nil] 1 [(0, (4, (.tmp 27)))]), none⟩, ⟨(some 29), (.append 4 48 (.tmp 24) (.tmp 28)), none⟩, ⟨(some 6), (.mv (.tmp 29)), none⟩]
abbrev A59r8 : List AIns := [⟨(some 7), (.mv (.cst .nil)), none⟩]
abbrev A59r9 : List AIns := [⟨(some 8), (.mv (.cst (.int .i64 0))), none⟩]
abbrev A59r11 : List AIns := [⟨(some 30), (.mv (.tmp 8)), none⟩, ⟨(some 31), (.mv (.tmp 0)), none⟩, ⟨(some 32), (.len (.tmp 31)), none⟩, ⟨(some 33), (.bin .lss (.tmp 30) (.tmp 32)), none⟩]
abbrev A59d12 : List AIns := [⟨(some 36), (.mv (.tmp 0)), none⟩, ⟨(some 37), (.mv (.tmp 8)), none⟩, ⟨(some 38), (.iaddr 4 (.tmp 36) (.tmp 37)), none⟩, ⟨(some 39), (.faddr 0 (.tmp 38)), none⟩, ⟨(some 40), (.load false 1 (.tmp 39)), none⟩, ⟨(some 41), (.bin .neq (.tmp 40) (.cst (.int .i64 1))), none⟩, ⟨(some 42), (.mv (.tmp 41)), none⟩, ⟨(some 43), (.mv (.tmp 0)), (some (42, false))⟩, ⟨(some 44), (.mv (.tmp 8)), (some (42, false))⟩, ⟨(some 45), (.iaddr 4 (.tmp 43) (.tmp 44)), (some (42, false))⟩, ⟨(some 46), (.faddr 1 (.tmp 45)), (some (42, false))⟩, ⟨(some 47), (.load false 1 (.tmp 46)), (some (42, false))⟩, ⟨(some 48), (.faddr 0 (.tmp 4)), (some (42, false))⟩, ⟨(some 49), (.load false 1 (.tmp 48)), (some (42, false))⟩, ⟨(some 50), (.bin .neq (.tmp 47) (.tmp 49)), (some (42, false))⟩, ⟨(some 51), (.pick (.tmp 42) (.cst (.bool true)) (.tmp 50)), none⟩]
abbrev A59r13 : List AIns := [⟨(some 52), (.mv (.tmp 7)), none⟩, ⟨(some 53), (.mv (.tmp 0)), none⟩, ⟨(some 54), (.mv (.tmp 8)), none⟩, ⟨(some 55), (.iaddr 4 (.tmp 53) (.tmp 54)), none⟩, ⟨(some 56), (.load true 4 (.tmp 55)), none⟩, ⟨(some 57), (.buildS 4 [(.int .i64 0), (.int .i64 0), (.int .i64 0), .nil] 1 [(0, (4, (.tmp 56)))]), none⟩, ⟨(some 58), (.append 4 48 (.tmp 52) (.tmp 57)), none⟩, ⟨(some 7), (.mv (.tmp 58)), none⟩]
abbrev A59c14 : ACode := (.seq (.dreg A59d12 [[], [], [0, 1], [0, 1, 2], [0, 1, 2, 3], [0, 1, 2, 3, 4], [0, 1, 2, 3, 4, 5], [0, 1, 2, 3, 4, 5, 6], [0, 1, 2, 3, 4, 5, 6], [0, 1, 2, 3, 4, 5, 6, 7, 8], [0, 1, 2, 3, 4, 5, 6, 7, 8, 9], [0, 1, 2, 3, 4, 5, 6, 7, 8, 9, 10], [0, 1, 2, 3, 4, 5, 6], [0, 1, 2, 3, 4, 5, 6, 12], [0, 1, 2, 3, 4, 5, 6, 7, 8, 9, 10, 11, 12, 13], [0, 1, 2, 3, 4, 5, 6, 7, 8, 9, 10, 11, 12, 13, 14]] [0, 4, 7, 8, 51]) (.cond (.tmp 51) [0, 4, 7, 8] (.reg A59r13 [0, 4, 7, 8]) [0, 4, 7, 8] .skip))
abbrev A59r15 : List AIns := [⟨(some 34), (.mv (.tmp 8)), none⟩, ⟨(some 35), (.bin .add (.tmp 34) (.cst (.int .i64 1))), none⟩, ⟨(some 8), (.mv (.tmp 35)), none⟩]
abbrev A59l10 : ACode := (.seq (.seq (.reg A59r11 [0, 4, 7, 8, 33]) (.cond (.tmp 33) [0, 4, 7, 8] .skip [7] (.exit 0))) (.seq (.block 1 A59c14) (.reg A59r15 [0, 4, 7, 8])))
abbrev A59r16 : List AIns := [⟨(some 59), (.mv (.tmp 7)), none⟩, ⟨(some 6), (.mv (.tmp 59)), none⟩]
def A59 : AFun := ⟨60, 3, [(.tmp 6)], (.seq (.reg A59r1 [0, 2, 4]) (.seq (.seq (.reg A59r2 [0, 2, 4, 14]) (.cond (.tmp 14) [0] (.seq (.reg A59r3 [6]) .ret) [0, 2, 4] .skip)) (.seq (.seq (.reg A59r4 [0, 2, 4, 21]) (.cond (.tmp 21) [0] (.seq (.reg A59r5 [6]) .ret) [0, 2, 4] .skip)) (.seq (.seq (.reg A59r6 [0, 4, 23]) (.cond (.tmp 23) [0, 4] (.seq (.reg A59r7 [6]) .ret) [0, 4] .skip)) (.seq (.reg A59r8 [0, 4, 7]) (.seq (.seq (.reg A59r9 [0, 4, 7, 8]) (.block 0 (.loop A59l10))) (.seq (.reg A59r16 [6]) .ret)))))))⟩
theorem A59c : compF Try.prog Try.f59 = some A59 := by kernel_rfl
theorem A59k : Callable Try.prog 59 := fun a w => Try.call59 a w
/- estovers/device.Check -/
abbrev A60r1 : List AIns := [⟨(some 1), (.box (.tmp 0)), none⟩, ⟨(some 2), (.mv (.cst (.int .i64 0))), none⟩]
abbrev A60r2 : List AIns := [⟨(some 13), (.faddr 0 (.tmp 1)), none⟩, ⟨(some 14), (.load false 1 (.tmp 13)), none⟩, ⟨(some 15), (.bin .lss (.tmp 14) (.cst (.int .i64 1))), none⟩, ⟨(some 16), (.mv (.tmp 15)), none⟩, ⟨(some 17), (.faddr 0 (.tmp 1)), (some (16, false))⟩, ⟨(some 18), (.load false 1 (.tmp 17)), (some (16, false))⟩, ⟨(some 19), (.bin .gtr (.tmp 18) (.cst (.int .i64 16))), (some (16, false))⟩, ⟨(some 20), (.pick (.tmp 16) (.cst (.bool true)) (.tmp 19)), none⟩, ⟨(some 21), (.mv (.tmp 20)), none⟩, ⟨(some 22), (.faddr 1 (.tmp 1)), (some (21, false))⟩, ⟨(some 23), (.load false 1 (.tmp 22)), (some (21, false))⟩, ⟨(some 24), (.bin .lss (.tmp 23) (.cst (.int .i64 0))), (some (21, false))⟩, ⟨(some 25), (.pick (.tmp 21) (.cst (.bool true)) (.tmp 24)), none⟩, ⟨(some 26), (.mv (.tmp 25)), none⟩, ⟨(some 27), (.faddr 1 (.tmp 1)), (some (26, false))⟩, ⟨(some 28), (.load false 1 (.tmp 27)), (some (26, false))⟩, ⟨(some 29), (.bin .gtr (.tmp 28) (.cst (.int .i64 1099511627776))), (some (26, false))⟩, ⟨(some 30), (.pick (.tmp 26) (.cst (.bool true)) (.tmp 29)), none⟩, ⟨(some 31), (.mv (.tmp 30)), none⟩, ⟨(some 32), (.faddr 2 (.tmp 1)), (some (31, false))⟩, ⟨(some 33), (.load false 1 (.tmp 32)), (some (31, false))⟩, ⟨(some 34), (.len (.tmp 33)), (some (31, false))⟩, ⟨(some 35), (.bin .lss (.tmp 34) (.cst (.int .i64 1))), (some (31, false))⟩, ⟨(some 36), (.pick (.tmp 31) (.cst (.bool true)) (.tmp 35)), none⟩, ⟨(some 37), (.mv (.tmp 36)), none⟩, ⟨(some 38), (.faddr 2 (.tmp 1)), (some (37, false))⟩, ⟨(some 39), (.load false 1 (.tmp 38)), (some (37, false))⟩, ⟨(some 40), (.len (.tmp 39)), (some (37, false))⟩, ⟨(some 41), (.bin .gtr (.tmp 40) (.cst (.int .i64 256))), (some (37, false))⟩, ⟨(some 42), (.pick (.tmp 37) (.cst (.bool true)) (.tmp 41)), none⟩]
abbrev A60r3 : List AIns := [⟨(some 2), (.mv (.cst (.int .i64 2))), none⟩]
abbrev A60r4 : List AIns := [⟨(some 43), (.faddr 2 (.tmp 1)), none⟩, ⟨(some 44), (.load false 1 (.tmp 43)), none⟩, ⟨(some 45), (.len (.tmp 44)), none⟩, ⟨(some 46), (.mv (.cst (.int .i64 0))), none⟩]
abbrev A60r6 : List AIns := [⟨(some 47), (.bin .lss (.tmp 46) (.tmp 45)), none⟩]
abbrev A60r7 : List AIns := [⟨(some 48), (.iaddr 1 (.tmp 44) (.tmp 46)), none⟩, ⟨(some 49), (.load false 1 (.tmp 48)), none⟩, ⟨(some 4), (.mv (.tmp 49)), none⟩]
abbrev A60r8 : List AIns := [⟨(some 50), (.mv (.tmp 4)), none⟩, ⟨(some 51), (.call (.fnc 76) [(.tmp 50)]), none⟩, ⟨(some 52), (.un .not (.tmp 51)), none⟩]
abbrev A60r9 : List AIns := [⟨(some 2), (.mv (.cst (.int .i64 3))), none⟩]
abbrev A60c10 : ACode := (.seq (.reg A60r7 [1, 4, 44, 45, 46]) (.seq (.reg A60r8 [1, 44, 45, 46, 52]) (.cond (.tmp 52) [] (.seq (.reg A60r9 [2]) .ret) [1, 44, 45, 46] .skip)))
abbrev A60r11 : List AIns := [⟨(some 53), (.bin .add (.tmp 46) (.cst (.int .i64 1))), none⟩, ⟨(some 46), (.mv (.tmp 53)), none⟩]
abbrev A60l5 : ACode := (.seq (.reg A60r6 [1, 44, 45, 46, 47]) (.seq (.cond (.tmp 47) [1, 44, 45, 46] .skip [1] (.exit 0)) (.seq (.block 1 A60c10) (.reg A60r11 [1, 44, 45, 46]))))
abbrev A60r12 : List AIns := [⟨(some 5), (.mv (.cst (.int .i64 (-1)))), none⟩]
abbrev A60r13 : List AIns := [⟨(some 54), (.faddr 3 (.tmp 1)), none⟩, ⟨(some 55), (.load false 1 (.tmp 54)), none⟩, ⟨(some 56), (.len (.tmp 55)), none⟩, ⟨(some 57), (.mv (.cst (.int .i64 0))), none⟩]
abbrev A60r15 : List AIns := [⟨(some 58), (.bin .lss (.tmp 57) (.tmp 56)), none⟩]
abbrev A60r16 : List AIns := [⟨(some 59), (.iaddr 2 (.tmp 55) (.tmp 57)), none⟩, ⟨(some 60), (.load true 2 (.tmp 59)), none⟩, ⟨(some 7), (.alloc [(.int .i64 0), .nil]), none⟩, ⟨none, (.store 2 (.tmp 7) (.tmp 60)), none⟩]
abbrev A60r17 : List AIns := [⟨(some 61), (.faddr 0 (.tmp 7)), none⟩, ⟨(some 62), (.load false 1 (.tmp 61)), none⟩, ⟨(some 63), (.mv (.tmp 5)), none⟩, ⟨(some 64), (.bin .leq (.tmp 62) (.tmp 63)), none⟩, ⟨(some 65), (.mv (.tmp 64)), none⟩, ⟨(some 66), (.faddr 0 (.tmp 7)), (some (65, false))⟩, ⟨(some 67), (.load false 1 (.tmp 66)), (some (65, false))⟩, ⟨(some 68), (.faddr 2 (.tmp 1)), (some (65, false))⟩, ⟨(some 69), (.load false 1 (.tmp 68)), (some (65, false))⟩, ⟨(some 70), (.len (.tmp 69)), (some (65, false))⟩, ⟨(some 71), (.bin .geq (.tmp 67) (.tmp 70)), (some (65, false))⟩, ⟨(some 72), (.pick (.tmp 65) (.cst (.bool true)) (.tmp 71)), none⟩]
abbrev A60r18 : List AIns := [⟨(some 2), (.mv (.cst (.int .i64 10))), none⟩]
abbrev A60r19 : List AIns := [⟨(some 73), (.faddr 0 (.tmp 7)), none⟩, ⟨(some 74), (.load false 1 (.tmp 73)), none⟩, ⟨(some 5), (.mv (.tmp 74)), none⟩]
abbrev A60c20 : ACode := (.seq (.reg A60r16 [1, 5, 7, 55, 56, 57]) (.seq (.seq (.reg A60r17 [1, 7, 55, 56, 57, 72]) (.cond (.tmp 72) [] (.seq (.reg A60r18 [2]) .ret) [1, 7, 55, 56, 57] .skip)) (.reg A60r19 [1, 5, 55, 56, 57])))
abbrev A60r21 : List AIns := [⟨(some 75), (.bin .add (.tmp 57) (.cst (.int .i64 1))), none⟩, ⟨(some 57), (.mv (.tmp 75)), none⟩]
abbrev A60l14 : ACode := (.seq (.reg A60r15 [1, 5, 55, 56, 57, 58]) (.seq (.cond (.tmp 58) [1, 5, 55, 56, 57] .skip [1] (.exit 2)) (.seq (.block 3 A60c20) (.reg A60r21 [1, 5, 55, 56, 57]))))
abbrev A60r22 : List AIns := [⟨(some 76), (.faddr 3 (.tmp 1)), none⟩, ⟨(some 77), (.load false 1 (.tmp 76)), none⟩, ⟨(some 78), (.len (.tmp 77)), none⟩, ⟨(some 79), (.mv (.cst (.int .i64 0))), none⟩]
abbrev A60r24 : List AIns := [⟨(some 80), (.bin .lss (.tmp 79) (.tmp 78)), none⟩]
abbrev A60r25 : List AIns := [⟨(some 81), (.iaddr 2 (.tmp 77) (.tmp 79)), none⟩, ⟨(some 82), (.load true 2 (.tmp 81)), none⟩, ⟨(some 9), (.alloc [(.int .i64 0), .nil]), none⟩, ⟨none, (.store 2 (.tmp 9) (.tmp 82)), none⟩]
abbrev A60r26 : List AIns := [⟨(some 83), (.faddr 1 (.tmp 9)), none⟩, ⟨(some 84), (.load false 1 (.tmp 83)), none⟩, ⟨(some 85), (.call (.fnc 76) [(.tmp 84)]), none⟩, ⟨(some 86), (.un .not (.tmp 85)), none⟩]
abbrev A60r27 : List AIns := [⟨(some 2), (.mv (.cst (.int .i64 3))), none⟩]
abbrev A60c28 : ACode := (.seq (.reg A60r25 [1, 9, 77, 78, 79]) (.seq (.reg A60r26 [1, 77, 78, 79, 86]) (.cond (.tmp 86) [] (.seq (.reg A60r27 [2]) .ret) [1, 77, 78, 79] .skip)))
abbrev A60r29 : List AIns := [⟨(some 87), (.bin .add (.tmp 79) (.cst (.int .i64 1))), none⟩, ⟨(some 79), (.mv (.tmp 87)), none⟩]
abbrev A60l23 : ACode := (.seq (.reg A60r24 [1, 77, 78, 79, 80]) (.seq (.cond (.tmp 80) [1, 77, 78, 79] .skip [1] (.exit 4)) (.seq (.block 5 A60c28) (.reg A60r29 [1, 77, 78, 79]))))
abbrev A60r30 : List AIns := [⟨(some 88), (.faddr 4 (.tmp 1)), none⟩, ⟨(some 89), (.load false 1 (.tmp 88)), none⟩, ⟨(some 90), (.len (.tmp 89)), none⟩, ⟨(some 91), (.faddr 0 (.tmp 1)), none⟩, ⟨(some 92), (.load false 1 (.tmp 91)), none⟩, ⟨(some 93), (.bin .gtr (.tmp 90) (.tmp 92)), none⟩]
abbrev A60r31 : List AIns := [⟨(some 2), (.mv (.cst (.int .i64 8))), none⟩]
abbrev A60r32 : List AIns := [⟨(some 5), (.mv (.cst (.int .i64 (-1)))), none⟩]
abbrev A60r33 : List AIns := [⟨(some 94), (.faddr 4 (.tmp 1)), none⟩, ⟨(some 95), (.load false 1 (.tmp 94)), none⟩, ⟨(some 96), (.len (.tmp 95)), none⟩, ⟨(some 97), (.mv (.cst (.int .i64 0))), none⟩]
abbrev A60r35 : List AIns := [⟨(some 98), (.bin .lss (.tmp 97) (.tmp 96)), none⟩]
abbrev A60r36 : List AIns := [⟨(some 99), (.iaddr 4 (.tmp 95) (.tmp 97)), none⟩, ⟨(some 100), (.load true 4 (.tmp 99)), none⟩, ⟨(some 11), (.alloc [(.int .i64 0), (.int .i64 0), (.int .i64 0), .nil]), none⟩, ⟨none, (.store 4 (.tmp 11) (.tmp 100)), none⟩]
abbrev A60r37 : List AIns := [⟨(some 101), (.load true 5 (.tmp 1)), none⟩, ⟨(some 102), (.load true 4 (.tmp 11)), none⟩, ⟨(some 103), (.call (.fnc 72) [(.tmp 101), (.tmp 102)]), none⟩, ⟨(some 12), (.mv (.tmp 103)), none⟩]
abbrev A60r38 : List AIns := [⟨(some 104), (.mv (.tmp 12)), none⟩, ⟨(some 105), (.bin .neq (.tmp 104) (.cst (.int .i64 0))), none⟩]
abbrev A60r39 : List AIns := [⟨(some 106), (.mv (.tmp 12)), none⟩, ⟨(some 2), (.mv (.tmp 106)), none⟩]
abbrev A60r40 : List AIns := [⟨(some 107), (.faddr 0 (.tmp 11)), none⟩, ⟨(some 108), (.load false 1 (.tmp 107)), none⟩, ⟨(some 109), (.mv (.tmp 5)), none⟩, ⟨(some 110), (.bin .leq (.tmp 108) (.tmp 109)), none⟩, ⟨(some 111), (.mv (.tmp 110)), none⟩, ⟨(some 112), (.faddr 0 (.tmp 11)), (some (111, false))⟩, ⟨(some 113), (.load false 1 (.tmp 112)), (some (111, false))⟩, ⟨(some 114), (.faddr 1 (.tmp 1)), (some (111, false))⟩, ⟨(some 115), (.load false 1 (.tmp 114)), (some (111, false))⟩, ⟨(some 116), (.bin .geq (.tmp 113) (.tmp 115)), (some (111, false))⟩, ⟨(some 117), (.pick (.tmp 111) (.cst (.bool true)) (.tmp 116)), none⟩]
abbrev A60r41 : List AIns := [⟨(some 2), (.mv (.cst (.int .i64 10))), none⟩]
abbrev A60r42 : List AIns := [⟨(some 118), (.faddr 0 (.tmp 11)), none⟩, ⟨(some 119), (.load false 1 (.tmp 118)), none⟩, ⟨(some 5), (.mv (.tmp 119)), none⟩]
abbrev A60c43 : ACode := (.seq (.reg A60r36 [1, 5, 11, 95, 96, 97]) (.seq (.seq (.reg A60r37 [1, 5, 11, 12, 95, 96, 97]) (.seq (.reg A60r38 [1, 5, 11, 12, 95, 96, 97, 105]) (.cond (.tmp 105) [12] (.seq (.reg A60r39 [2]) .ret) [1, 5, 11, 95, 96, 97] .skip))) (.seq (.seq (.reg A60r40 [1, 11, 95, 96, 97, 117]) (.cond (.tmp 117) [] (.seq (.reg A60r41 [2]) .ret) [1, 11, 95, 96, 97] .skip)) (.reg A60r42 [1, 5, 95, 96, 97]))))
abbrev A60r44 : List AIns := [⟨(some 120), (.bin .add (.tmp 97) (.cst (.int .i64 1))), none⟩, ⟨(some 97), (.mv (.tmp 120)), none⟩]
abbrev A60l34 : ACode := (.seq (.reg A60r35 [1, 5, 95, 96, 97, 98]) (.seq (.cond (.tmp 98) [1, 5, 95, 96, 97] .skip [] (.exit 6)) (.seq (.block 7 A60c43) (.reg A60r44 [1, 5, 95, 96, 97]))))
abbrev A60r45 : List AIns := [⟨(some 2), (.mv (.cst (.int .i64 0))), none⟩]
def A60 : AFun := ⟨121, 1, [(.tmp 2)], (.seq (.reg A60r1 [1]) (.seq (.seq (.reg A60r2 [1, 42]) (.cond (.tmp 42) [] (.seq (.reg A60r3 [2]) .ret) [1] .skip)) (.seq (.seq (.reg A60r4 [1, 44, 45, 46]) (.block 0 (.loop A60l5))) (.seq (.reg A60r12 [1, 5]) (.seq (.seq (.reg A60r13 [1, 5, 55, 56, 57]) (.block 2 (.loop A60l14))) (.seq (.seq (.reg A60r22 [1, 77, 78, 79]) (.block 4 (.loop A60l23))) (.seq (.seq (.reg A60r30 [1, 93]) (.cond (.tmp 93) [] (.seq (.reg A60r31 [2]) .ret) [1] .skip)) (.seq (.reg A60r32 [1, 5]) (.seq (.seq (.reg A60r33 [1, 5, 95, 96, 97]) (.block 6 (.loop A60l34))) (.seq (.reg A60r45 [2]) .ret))))))))))⟩
theorem A60c : compF Try.prog Try.f60 = some A60 := by kernel_rfl
theorem A60k : Callable Try.prog 60 := fun a w => Try.call60 a w
theorem A60p {ds : List D} {r : D} (hl : ds.length ≤ A60.nt) (hw : W Try.prog A60.code (Fin A60.results r) ⟨argEnv 0 ds, fun _ => none⟩) : PCon Try.prog 60 ds r := pcon_of_W mixed Try.func60 A60k A60c hl hw
/- estovers/device.clone -/
abbrev A61r1 : List AIns := [⟨(some 1), (.box (.tmp 0)), none⟩, ⟨(some 2), (.alloc [(.int .i64 0), (.int .i64 0), .nil, .nil, .nil]), none⟩]
abbrev A61r2 : List AIns := [⟨(some 10), (.faddr 0 (.tmp 1)), none⟩, ⟨(some 11), (.load false 1 (.tmp 10)), none⟩, ⟨(some 12), (.faddr 1 (.tmp 1)), none⟩, ⟨(some 13), (.load false 1 (.tmp 12)), none⟩, ⟨(some 14), (.build [(.int .i64 0), (.int .i64 0), .nil, .nil, .nil] [(0, (1, (.tmp 11))), (1, (1, (.tmp 13)))]), none⟩, ⟨(some 3), (.alloc [(.int .i64 0), (.int .i64 0), .nil, .nil, .nil]), none⟩, ⟨none, (.store 5 (.tmp 3) (.tmp 14)), none⟩]
abbrev A61r3 : List AIns := [⟨(some 15), (.faddr 2 (.tmp 1)), none⟩, ⟨(some 16), (.load false 1 (.tmp 15)), none⟩, ⟨(some 17), (.len (.tmp 16)), none⟩, ⟨(some 18), (.mv (.cst (.int .i64 0))), none⟩]
abbrev A61r5 : List AIns := [⟨(some 19), (.bin .lss (.tmp 18) (.tmp 17)), none⟩]
abbrev A61r6 : List AIns := [⟨(some 20), (.iaddr 1 (.tmp 16) (.tmp 18)), none⟩, ⟨(some 21), (.load false 1 (.tmp 20)), none⟩, ⟨(some 5), (.mv (.tmp 21)), none⟩]
abbrev A61d7 : List AIns := [⟨(some 22), (.faddr 2 (.tmp 3)), none⟩, ⟨(some 23), (.load false 1 (.tmp 22)), none⟩, ⟨(some 24), (.mv (.tmp 5)), none⟩, ⟨(some 25), (.call (.fnc 63) [(.tmp 24)]), none⟩, ⟨(some 26), (.buildS 1 [.nil] 1 [(0, (1, (.tmp 25)))]), none⟩, ⟨(some 27), (.append 1 24 (.tmp 23) (.tmp 26)), none⟩, ⟨(some 28), (.faddr 2 (.tmp 3)), none⟩, ⟨none, (.store 1 (.tmp 28) (.tmp 27)), none⟩]
abbrev A61d7a : List AIns := [⟨(some 22), (.faddr 2 (.tmp 3)), none⟩, ⟨(some 23), (.load false 1 (.tmp 22)), none⟩, ⟨(some 24), (.mv (.tmp 5)), none⟩, ⟨(some 25), (.call (.fnc 63) [(.tmp 24)]), none⟩]
abbrev A61d7b : List AIns := [⟨(some 26), (.buildS 1 [.nil] 1 [(0, (1, (.tmp 25)))]), none⟩, ⟨(some 27), (.append 1 24 (.tmp 23) (.tmp 26)), none⟩, ⟨(some 28), (.faddr 2 (.tmp 3)), none⟩, ⟨none, (.store 1 (.tmp 28) (.tmp 27)), none⟩]
abbrev A61c8 : ACode := (.seq (.reg A61r6 [1, 2, 3, 5, 16, 17, 18]) (.dreg A61d7 [[], [0], [], [2], [2, 3], [0, 1, 2, 3, 4], [0, 1, 2, 3, 4, 5], [0, 1, 2, 3, 4, 5, 6]] [1, 2, 3, 16, 17, 18]))
abbrev A61r9 : List AIns := [⟨(some 29), (.bin .add (.tmp 18) (.cst (.int .i64 1))), none⟩, ⟨(some 18), (.mv (.tmp 29)), none⟩]
abbrev A61l4 : ACode := (.seq (.reg A61r5 [1, 2, 3, 16, 17, 18, 19]) (.seq (.cond (.tmp 19) [1, 2, 3, 16, 17, 18] .skip [1, 2, 3] (.exit 0)) (.seq (.block 1 A61c8) (.reg A61r9 [1, 2, 3, 16, 17, 18]))))
abbrev A61r10 : List AIns := [⟨(some 30), (.faddr 3 (.tmp 1)), none⟩, ⟨(some 31), (.load false 1 (.tmp 30)), none⟩, ⟨(some 32), (.len (.tmp 31)), none⟩, ⟨(some 33), (.mv (.cst (.int .i64 0))), none⟩]
abbrev A61r12 : List AIns := [⟨(some 34), (.bin .lss (.tmp 33) (.tmp 32)), none⟩]
abbrev A61r13 : List AIns := [⟨(some 35), (.iaddr 2 (.tmp 31) (.tmp 33)), none⟩, ⟨(some 36), (.load true 2 (.tmp 35)), none⟩, ⟨(some 7), (.alloc [(.int .i64 0), .nil]), none⟩, ⟨none, (.store 2 (.tmp 7) (.tmp 36)), none⟩]
abbrev A61d14 : List AIns := [⟨(some 37), (.faddr 3 (.tmp 3)), none⟩, ⟨(some 38), (.load false 1 (.tmp 37)), none⟩, ⟨(some 39), (.faddr 0 (.tmp 7)), none⟩, ⟨(some 40), (.load false 1 (.tmp 39)), none⟩, ⟨(some 41), (.faddr 1 (.tmp 7)), none⟩, ⟨(some 42), (.load false 1 (.tmp 41)), none⟩, ⟨(some 43), (.call (.fnc 63) [(.tmp 42)]), none⟩, ⟨(some 44), (.build [(.int .i64 0), .nil] [(0, (1, (.tmp 40))), (1, (1, (.tmp 43)))]), none⟩, ⟨(some 45), (.buildS 2 [(.int .i64 0), .nil] 1 [(0, (2, (.tmp 44)))]), none⟩, ⟨(some 46), (.append 2 32 (.tmp 38) (.tmp 45)), none⟩, ⟨(some 47), (.faddr 3 (.tmp 3)), none⟩, ⟨none, (.store 1 (.tmp 47) (.tmp 46)), none⟩]
abbrev A61d14a : List AIns := [⟨(some 37), (.faddr 3 (.tmp 3)), none⟩, ⟨(some 38), (.load false 1 (.tmp 37)), none⟩, ⟨(some 39), (.faddr 0 (.tmp 7)), none⟩, ⟨(some 40), (.load false 1 (.tmp 39)), none⟩, ⟨(some 41), (.faddr 1 (.tmp 7)), none⟩, ⟨(some 42), (.load false 1 (.tmp 41)), none⟩, ⟨(some 43), (.call (.fnc 63) [(.tmp 42)]), none⟩, ⟨(some 44), (.build [(.int .i64 0), .nil] [(0, (1, (.tmp 40))), (1, (1, (.tmp 43)))]), none⟩]
abbrev A61d14b : List AIns := [⟨(some 45), (.buildS 2 [(.int .i64 0), .nil] 1 [(0, (2, (.tmp 44)))]), none⟩, ⟨(some 46), (.append 2 32 (.tmp 38) (.tmp 45)), none⟩, ⟨(some 47), (.faddr 3 (.tmp 3)), none⟩, ⟨none, (.store 1 (.tmp 47) (.tmp 46)), none⟩]
abbrev A61c15 : ACode := (.seq (.reg A61r13 [1, 2, 3, 7, 31, 32, 33]) (.dreg A61d14 [[], [0], [], [2], [], [4], [4, 5], [2, 3, 4, 5, 6], [2, 3, 4, 5, 6, 7], [0, 1, 2, 3, 4, 5, 6, 7, 8], [0, 1, 2, 3, 4, 5, 6, 7, 8, 9], [0, 1, 2, 3, 4, 5, 6, 7, 8, 9, 10]] [1, 2, 3, 31, 32, 33]))
abbrev A61r16 : List AIns := [⟨(some 48), (.bin .add (.tmp 33) (.cst (.int .i64 1))), none⟩, ⟨(some 33), (.mv (.tmp 48)), none⟩]
abbrev A61l11 : ACode := (.seq (.reg A61r12 [1, 2, 3, 31, 32, 33, 34]) (.seq (.cond (.tmp 34) [1, 2, 3, 31, 32, 33] .skip [1, 2, 3] (.exit 2)) (.seq (.block 3 A61c15) (.reg A61r16 [1, 2, 3, 31, 32, 33]))))
abbrev A61r17 : List AIns := [⟨(some 49), (.faddr 4 (.tmp 1)), none⟩, ⟨(some 50), (.load false 1 (.tmp 49)), none⟩, ⟨(some 51), (.len (.tmp 50)), none⟩, ⟨(some 52), (.mv (.cst (.int .i64 0))), none⟩]
abbrev A61r19 : List AIns := [⟨(some 53), (.bin .lss (.tmp 52) (.tmp 51)), none⟩]
abbrev A61r20 : List AIns := [⟨(some 54), (.iaddr 4 (.tmp 50) (.tmp 52)), none⟩, ⟨(some 55), (.load true 4 (.tmp 54)), none⟩, ⟨(some 9), (.alloc [(.int .i64 0), (.int .i64 0), (.int .i64 0), .nil]), none⟩, ⟨none, (.store 4 (.tmp 9) (.tmp 55)), none⟩]
abbrev A61r21 : List AIns := [⟨(some 56), (.faddr 3 (.tmp 9)), none⟩, ⟨(some 57), (.load false 1 (.tmp 56)), none⟩, ⟨(some 58), (.call (.fnc 63) [(.tmp 57)]), none⟩, ⟨(some 59), (.faddr 3 (.tmp 9)), none⟩, ⟨none, (.store 1 (.tmp 59) (.tmp 58)), none⟩]
abbrev A61r22 : List AIns := [⟨(some 60), (.faddr 4 (.tmp 3)), none⟩, ⟨(some 61), (.load false 1 (.tmp 60)), none⟩, ⟨(some 62), (.load true 4 (.tmp 9)), none⟩, ⟨(some 63), (.buildS 4 [(.int .i64 0), (.int .i64 0), (.int .i64 0), .nil] 1 [(0, (4, (.tmp 62)))]), none⟩, ⟨(some 64), (.append 4 48 (.tmp 61) (.tmp 63)), none⟩, ⟨(some 65), (.faddr 4 (.tmp 3)), none⟩, ⟨none, (.store 1 (.tmp 65) (.tmp 64)), none⟩]
abbrev A61c23 : ACode := (.seq (.reg A61r20 [2, 3, 9, 50, 51, 52]) (.seq (.reg A61r21 [2, 3, 9, 50, 51, 52]) (.reg A61r22 [2, 3, 50, 51, 52])))
abbrev A61r24 : List AIns := [⟨(some 66), (.bin .add (.tmp 52) (.cst (.int .i64 1))), none⟩, ⟨(some 52), (.mv (.tmp 66)), none⟩]
abbrev A61l18 : ACode := (.seq (.reg A61r19 [2, 3, 50, 51, 52, 53]) (.seq (.cond (.tmp 53) [2, 3, 50, 51, 52] .skip [2, 3] (.exit 4)) (.seq (.block 5 A61c23) (.reg A61r24 [2, 3, 50, 51, 52]))))
abbrev A61r25 : List AIns := [⟨(some 67), (.load true 5 (.tmp 3)), none⟩, ⟨none, (.store 5 (.tmp 2) (.tmp 67)), none⟩]
def A61 : AFun := ⟨68, 1, [(.cell 2 true 5)], (.seq (.reg A61r1 [1, 2]) (.seq (.reg A61r2 [1, 2, 3]) (.seq (.seq (.reg A61r3 [1, 2, 3, 16, 17, 18]) (.block 0 (.loop A61l4))) (.seq (.seq (.reg A61r10 [1, 2, 3, 31, 32, 33]) (.block 2 (.loop A61l11))) (.seq (.seq (.reg A61r17 [2, 3, 50, 51, 52]) (.block 4 (.loop A61l18))) (.seq (.reg A61r25 [2]) .ret))))))⟩
theorem A61c : compF Try.prog Try.f61 = some A61 := by kernel_rfl
theorem A61k : Callable Try.prog 61 := fun a w => Try.call61 a w
/- estovers/device.Crash$1 -/
abbrev A62r1 : List AIns := [⟨(some 7), (.load false 1 (.tmp 2)), none⟩, ⟨(some 8), (.load false 1 (.tmp 3)), none⟩, ⟨(some 9), (.len (.tmp 8)), none⟩, ⟨(some 10), (.bin .lss (.tmp 7) (.tmp 9)), none⟩, ⟨(some 11), (.mv (.tmp 10)), none⟩, ⟨(some 12), (.load false 1 (.tmp 3)), (some (11, true))⟩, ⟨(some 13), (.load false 1 (.tmp 2)), (some (11, true))⟩, ⟨(some 14), (.iaddr 1 (.tmp 12) (.tmp 13)), (some (11, true))⟩, ⟨(some 15), (.load false 1 (.tmp 14)), (some (11, true))⟩, ⟨(some 16), (.pick (.tmp 11) (.tmp 15) (.cst (.bool false))), none⟩]
abbrev A62d2 : List AIns := [⟨(some 17), (.faddr 2 (.tmp 4)), none⟩, ⟨(some 18), (.load false 1 (.tmp 17)), none⟩, ⟨(some 19), (.mv (.tmp 0)), none⟩, ⟨(some 20), (.mv (.tmp 1)), none⟩, ⟨(some 21), (.call (.fnc 63) [(.tmp 20)]), none⟩, ⟨(some 22), (.iaddr 1 (.tmp 18) (.tmp 19)), none⟩, ⟨none, (.store 1 (.tmp 22) (.tmp 21)), none⟩]
abbrev A62d2p : List AIns := [⟨(some 17), (.faddr 2 (.tmp 4)), none⟩, ⟨(some 18), (.load false 1 (.tmp 17)), none⟩, ⟨(some 19), (.mv (.tmp 0)), none⟩, ⟨(some 20), (.mv (.tmp 1)), none⟩, ⟨(some 21), (.call (.fnc 63) [(.tmp 20)]), none⟩, ⟨(some 22), (.iaddr 1 (.tmp 18) (.tmp 19)), none⟩]
abbrev A62c3 : ACode := (.dreg A62d2 [[], [0], [], [], [3], [0, 1, 2, 3, 4], [0, 1, 2, 3, 4, 5]] [2])
abbrev A62r4 : List AIns := [⟨(some 23), (.load false 1 (.tmp 2)), none⟩, ⟨(some 24), (.bin .add (.tmp 23) (.cst (.int .i64 1))), none⟩, ⟨none, (.store 1 (.tmp 2) (.tmp 24)), none⟩]
def A62 : AFun := ⟨25, 5, [], (.seq (.seq (.reg A62r1 [0, 1, 2, 4, 16]) (.cond (.tmp 16) [0, 1, 2, 4] A62c3 [2] .skip)) (.reg A62r4 []))⟩
theorem A62c : compF Try.prog Try.f62 = some A62 := by kernel_rfl
theorem A62k : Callable Try.prog 62 := fun a w => Try.call62 a w
/- bytes.Clone -/
abbrev A63r1 : List AIns := [⟨(some 2), (.mv (.cst .nil)), none⟩]
abbrev A63r2 : List AIns := [⟨(some 3), (.mv (.tmp 0)), none⟩, ⟨(some 4), (.eqN false (.tmp 3)), none⟩]
abbrev A63r3 : List AIns := [⟨(some 2), (.mv (.cst .nil)), none⟩]
abbrev A63r4 : List AIns := [⟨(some 5), (.buildS 1 [(.int .u8 0)] 0 []), none⟩, ⟨(some 6), (.mv (.tmp 0)), none⟩, ⟨(some 7), (.append 1 1 (.tmp 5) (.tmp 6)), none⟩, ⟨(some 2), (.mv (.tmp 7)), none⟩]
def A63 : AFun := ⟨8, 1, [(.tmp 2)], (.seq (.reg A63r1 [0]) (.seq (.seq (.reg A63r2 [0, 4]) (.cond (.tmp 4) [] (.seq (.reg A63r3 [2]) .ret) [0] .skip)) (.seq (.reg A63r4 [2]) .ret)))⟩
theorem A63c : compF Try.prog Try.f63 = some A63 := by kernel_rfl
theorem A63k : Callable Try.prog 63 := fun a w => Try.call63 a w
theorem A63p {ds : List D} {r : D} (hl : ds.length ≤ A63.nt) (hw : W Try.prog A63.code (Fin A63.results r) ⟨argEnv 0 ds, fun _ => none⟩) : PCon Try.prog 63 ds r := pcon_of_W mixed Try.func63 A63k A63c hl hw
/- estovers/device.content -/
/- slices.Clone[[][]byte,[]byte] -/
abbrev A65r1 : List AIns := [⟨(some 2), (.mv (.cst .nil)), none⟩]
abbrev A65r2 : List AIns := [⟨(some 3), (.mv (.tmp 0)), none⟩, ⟨(some 4), (.eqN false (.tmp 3)), none⟩]
abbrev A65r3 : List AIns := [⟨(some 2), (.mv (.cst .nil)), none⟩]
abbrev A65r4 : List AIns := [⟨(some 5), (.buildS 1 [.nil] 0 []), none⟩, ⟨(some 6), (.mv (.tmp 0)), none⟩, ⟨(some 7), (.append 1 24 (.tmp 5) (.tmp 6)), none⟩, ⟨(some 2), (.mv (.tmp 7)), none⟩]
def A65 : AFun := ⟨8, 1, [(.tmp 2)], (.seq (.reg A65r1 [0]) (.seq (.seq (.reg A65r2 [0, 4]) (.cond (.tmp 4) [] (.seq (.reg A65r3 [2]) .ret) [0] .skip)) (.seq (.reg A65r4 [2]) .ret)))⟩
theorem A65c : compF Try.prog Try.f65 = some A65 := by kernel_rfl
theorem A65k : Callable Try.prog 65 := fun a w => Try.call65 a w
theorem A65p {ds : List D} {r : D} (hl : ds.length ≤ A65.nt) (hw : W Try.prog A65.code (Fin A65.results r) ⟨argEnv 0 ds, fun _ => none⟩) : PCon Try.prog 65 ds r := pcon_of_W mixed Try.func65 A65k A65c hl hw
/- (*estovers/durable.state).wrong -/
abbrev A66r1 : List AIns := [⟨(some 4), (.box (.tmp 1)), none⟩, ⟨(some 6), (.mv (.cst (.int .i64 0))), none⟩]
abbrev A66r2 : List AIns := [⟨(some 7), (.faddr 0 (.tmp 4)), none⟩, ⟨(some 8), (.load false 1 (.tmp 7)), none⟩]
abbrev A66r3 : List AIns := [⟨(some 10), (.bin .eql (.tmp 8) (.cst (.int .i64 1))), none⟩, ⟨(some 9), (.mv (.tmp 10)), none⟩]
abbrev A66d4 : List AIns := [⟨(some 12), (.faddr 2 (.tmp 4)), none⟩, ⟨(some 13), (.load false 1 (.tmp 12)), none⟩, ⟨(some 14), (.bin .lss (.tmp 13) (.cst (.int .i64 0))), none⟩, ⟨(some 15), (.mv (.tmp 14)), none⟩, ⟨(some 16), (.faddr 2 (.tmp 4)), (some (15, false))⟩, ⟨(some 17), (.load false 1 (.tmp 16)), (some (15, false))⟩, ⟨(some 18), (.mv (.tmp 0)), (some (15, false))⟩, ⟨(some 19), (.nilck (.tmp 18)), (some (15, false))⟩, ⟨(some 20), (.faddr 0 (.tmp 19)), (some (15, false))⟩, ⟨(some 21), (.load false 1 (.tmp 20)), (some (15, false))⟩, ⟨(some 22), (.len (.tmp 21)), (some (15, false))⟩, ⟨(some 23), (.bin .geq (.tmp 17) (.tmp 22)), (some (15, false))⟩, ⟨(some 24), (.pick (.tmp 15) (.cst (.bool true)) (.tmp 23)), none⟩, ⟨(some 11), (.mv (.tmp 24)), none⟩]
abbrev A66r5 : List AIns := [⟨(some 6), (.mv (.cst (.int .i64 2))), none⟩]
abbrev A66r6 : List AIns := [⟨(some 26), (.faddr 3 (.tmp 4)), none⟩, ⟨(some 27), (.load false 1 (.tmp 26)), none⟩, ⟨(some 28), (.len (.tmp 27)), none⟩, ⟨(some 29), (.bin .neq (.tmp 28) (.cst (.int .i64 32))), none⟩, ⟨(some 25), (.mv (.tmp 29)), none⟩]
abbrev A66r7 : List AIns := [⟨(some 6), (.mv (.cst (.int .i64 3))), none⟩]
abbrev A66r8 : List AIns := [⟨(some 31), (.mv (.tmp 2)), none⟩, ⟨(some 32), (.faddr 1 (.tmp 4)), none⟩, ⟨(some 33), (.load false 1 (.tmp 32)), none⟩, ⟨(some 34), (.mapHas (.tmp 31) (.tmp 33)), none⟩, ⟨(some 30), (.mv (.tmp 34)), none⟩]
abbrev A66r9 : List AIns := [⟨(some 6), (.mv (.cst (.int .i64 7))), none⟩]
abbrev A66c10 : ACode := (.seq (.reg A66r8 [30]) (.cond (.tmp 30) [] (.seq (.reg A66r9 [6]) .ret) [] .skip))
abbrev A66c11 : ACode := (.seq (.reg A66r6 [2, 4, 25]) (.cond (.tmp 25) [] (.seq (.reg A66r7 [6]) .ret) [2, 4] A66c10))
abbrev A66c12 : ACode := (.seq (.dreg A66d4 [[], [0], [0, 1], [0, 1, 2], [0, 1, 2, 3], [0, 1, 2, 3, 4], [0, 1, 2, 3], [0, 1, 2, 3, 6], [0, 1, 2, 3, 6, 7], [0, 1, 2, 3, 6, 7, 8], [0, 1, 2, 3, 6, 7, 8, 9], [0, 1, 2, 3, 4, 5, 6, 7, 8, 9, 10], [0, 1, 2, 3, 4, 5, 6, 7, 8, 9, 10, 11], [0, 1, 2, 3, 4, 5, 6, 7, 8, 9, 10, 11, 12]] [2, 4, 11]) (.cond (.tmp 11) [] (.seq (.reg A66r5 [6]) .ret) [2, 4] A66c11))
abbrev A66r13 : List AIns := [⟨(some 36), (.bin .eql (.tmp 8) (.cst (.int .i64 2))), none⟩, ⟨(some 35), (.mv (.tmp 36)), none⟩]
abbrev A66r14 : List AIns := [⟨(some 37), (.faddr 2 (.tmp 4)), none⟩, ⟨(some 38), (.load false 1 (.tmp 37)), none⟩, ⟨(some 39), (.bin .neq (.tmp 38) (.cst (.int .i64 0))), none⟩, ⟨(some 40), (.mv (.tmp 39)), none⟩, ⟨(some 41), (.faddr 3 (.tmp 4)), (some (40, false))⟩, ⟨(some 42), (.load false 1 (.tmp 41)), (some (40, false))⟩, ⟨(some 43), (.len (.tmp 42)), (some (40, false))⟩, ⟨(some 44), (.bin .neq (.tmp 43) (.cst (.int .i64 0))), (some (40, false))⟩, ⟨(some 45), (.pick (.tmp 40) (.cst (.bool true)) (.tmp 44)), none⟩]
abbrev A66r15 : List AIns := [⟨(some 6), (.mv (.cst (.int .i64 1))), none⟩]
abbrev A66r16 : List AIns := [⟨(some 46), (.mv (.tmp 0)), none⟩, ⟨(some 47), (.faddr 1 (.tmp 4)), none⟩, ⟨(some 48), (.load false 1 (.tmp 47)), none⟩, ⟨(some 49), (.call (.fnc 77) [(.tmp 46), (.tmp 48)]), none⟩, ⟨(some 50), (.bin .lss (.tmp 49) (.cst (.int .i64 0))), none⟩]
abbrev A66r17 : List AIns := [⟨(some 6), (.mv (.cst (.int .i64 6))), none⟩]
abbrev A66c18 : ACode := (.seq (.seq (.reg A66r14 [0, 4, 45]) (.cond (.tmp 45) [] (.seq (.reg A66r15 [6]) .ret) [0, 4] .skip)) (.seq (.reg A66r16 [50]) (.cond (.tmp 50) [] (.seq (.reg A66r17 [6]) .ret) [] .skip)))
abbrev A66r19 : List AIns := [⟨(some 52), (.bin .eql (.tmp 8) (.cst (.int .i64 3))), none⟩, ⟨(some 51), (.mv (.tmp 52)), none⟩]
abbrev A66r20 : List AIns := [⟨(some 53), (.faddr 1 (.tmp 4)), none⟩, ⟨(some 54), (.load false 1 (.tmp 53)), none⟩, ⟨(some 55), (.bin .neq (.tmp 54) (.cst (.int .i64 0))), none⟩, ⟨(some 56), (.mv (.tmp 55)), none⟩, ⟨(some 57), (.faddr 2 (.tmp 4)), (some (56, false))⟩, ⟨(some 58), (.load false 1 (.tmp 57)), (some (56, false))⟩, ⟨(some 59), (.bin .neq (.tmp 58) (.cst (.int .i64 0))), (some (56, false))⟩, ⟨(some 60), (.pick (.tmp 56) (.cst (.bool true)) (.tmp 59)), none⟩, ⟨(some 61), (.mv (.tmp 60)), none⟩, ⟨(some 62), (.faddr 3 (.tmp 4)), (some (61, false))⟩, ⟨(some 63), (.load false 1 (.tmp 62)), (some (61, false))⟩, ⟨(some 64), (.len (.tmp 63)), (some (61, false))⟩, ⟨(some 65), (.bin .neq (.tmp 64) (.cst (.int .i64 0))), (some (61, false))⟩, ⟨(some 66), (.pick (.tmp 61) (.cst (.bool true)) (.tmp 65)), none⟩]
abbrev A66r21 : List AIns := [⟨(some 6), (.mv (.cst (.int .i64 1))), none⟩]
abbrev A66c22 : ACode := (.seq (.reg A66r20 [66]) (.cond (.tmp 66) [] (.seq (.reg A66r21 [6]) .ret) [] .skip))
abbrev A66r23 : List AIns := [⟨(some 6), (.mv (.cst (.int .i64 1))), none⟩]
abbrev A66c24 : ACode := (.seq (.reg A66r19 [4, 51]) (.cond (.tmp 51) [4] A66c22 [] (.seq (.reg A66r23 [6]) .ret)))
abbrev A66c25 : ACode := (.seq (.reg A66r13 [0, 4, 8, 35]) (.cond (.tmp 35) [0, 4] A66c18 [4, 8] A66c24))
abbrev A66c26 : ACode := (.seq (.reg A66r3 [0, 2, 4, 8, 9]) (.cond (.tmp 9) [0, 2, 4] (.block 1 A66c12) [0, 4, 8] A66c25))
abbrev A66r27 : List AIns := [⟨(some 6), (.mv (.cst (.int .i64 0))), none⟩]
def A66 : AFun := ⟨67, 3, [(.tmp 6)], (.seq (.reg A66r1 [0, 2, 4]) (.seq (.seq (.reg A66r2 [0, 2, 4, 8]) (.block 0 A66c26)) (.seq (.reg A66r27 [6]) .ret)))⟩
theorem A66c : compF Try.prog Try.f66 = some A66 := by kernel_rfl
theorem A66k : Callable Try.prog 66 := fun a w => Try.call66 a w
/- (*estovers/durable.state).apply -/
abbrev A67r1 : List AIns := [⟨(some 3), (.box (.tmp 1)), none⟩]
abbrev A67r2 : List AIns := [⟨(some 7), (.faddr 0 (.tmp 3)), none⟩, ⟨(some 8), (.load false 1 (.tmp 7)), none⟩]
abbrev A67r3 : List AIns := [⟨(some 10), (.bin .eql (.tmp 8) (.cst (.int .i64 1))), none⟩, ⟨(some 9), (.mv (.tmp 10)), none⟩]
abbrev A67d4 : List AIns := [⟨(some 11), (.mv (.tmp 0)), none⟩, ⟨(some 12), (.mv (.tmp 0)), none⟩, ⟨(some 13), (.nilck (.tmp 12)), none⟩, ⟨(some 14), (.faddr 2 (.tmp 13)), none⟩, ⟨(some 15), (.load false 1 (.tmp 14)), none⟩, ⟨(some 16), (.faddr 1 (.tmp 3)), none⟩, ⟨(some 17), (.load false 1 (.tmp 16)), none⟩, ⟨(some 18), (.faddr 2 (.tmp 3)), none⟩, ⟨(some 19), (.load false 1 (.tmp 18)), none⟩, ⟨(some 20), (.faddr 3 (.tmp 3)), none⟩, ⟨(some 21), (.load false 1 (.tmp 20)), none⟩, ⟨(some 22), (.build [(.int .i64 0), (.int .i64 0), .nil] [(0, (1, (.tmp 17))), (1, (1, (.tmp 19))), (2, (1, (.tmp 21)))]), none⟩, ⟨(some 23), (.buildS 3 [(.int .i64 0), (.int .i64 0), .nil] 1 [(0, (3, (.tmp 22)))]), none⟩, ⟨(some 24), (.append 3 40 (.tmp 15) (.tmp 23)), none⟩, ⟨(some 25), (.nilck (.tmp 11)), none⟩, ⟨(some 26), (.faddr 2 (.tmp 25)), none⟩, ⟨none, (.store 1 (.tmp 26) (.tmp 24)), none⟩]
abbrev A67d4a : List AIns := [⟨(some 11), (.mv (.tmp 0)), none⟩, ⟨(some 12), (.mv (.tmp 0)), none⟩, ⟨(some 13), (.nilck (.tmp 12)), none⟩, ⟨(some 14), (.faddr 2 (.tmp 13)), none⟩, ⟨(some 15), (.load false 1 (.tmp 14)), none⟩, ⟨(some 16), (.faddr 1 (.tmp 3)), none⟩, ⟨(some 17), (.load false 1 (.tmp 16)), none⟩, ⟨(some 18), (.faddr 2 (.tmp 3)), none⟩, ⟨(some 19), (.load false 1 (.tmp 18)), none⟩, ⟨(some 20), (.faddr 3 (.tmp 3)), none⟩, ⟨(some 21), (.load false 1 (.tmp 20)), none⟩, ⟨(some 22), (.build [(.int .i64 0), (.int .i64 0), .nil] [(0, (1, (.tmp 17))), (1, (1, (.tmp 19))), (2, (1, (.tmp 21)))]), none⟩]
abbrev A67d4b : List AIns := [⟨(some 23), (.buildS 3 [(.int .i64 0), (.int .i64 0), .nil] 1 [(0, (3, (.tmp 22)))]), none⟩, ⟨(some 24), (.append 3 40 (.tmp 15) (.tmp 23)), none⟩, ⟨(some 25), (.nilck (.tmp 11)), none⟩, ⟨(some 26), (.faddr 2 (.tmp 25)), none⟩, ⟨none, (.store 1 (.tmp 26) (.tmp 24)), none⟩]
abbrev A67c5 : ACode := (.dreg A67d4 [[], [], [1], [1, 2], [1, 2, 3], [], [5], [], [7], [], [9], [5, 6, 7, 8, 9, 10], [5, 6, 7, 8, 9, 10, 11], [1, 2, 3, 4, 5, 6, 7, 8, 9, 10, 11, 12], [0, 1, 2, 3, 4, 5, 6, 7, 8, 9, 10, 11, 12, 13], [0, 1, 2, 3, 4, 5, 6, 7, 8, 9, 10, 11, 12, 13, 14], [0, 1, 2, 3, 4, 5, 6, 7, 8, 9, 10, 11, 12, 13, 14, 15]] [])
abbrev A67r6 : List AIns := [⟨(some 28), (.bin .eql (.tmp 8) (.cst (.int .i64 2))), none⟩, ⟨(some 27), (.mv (.tmp 28)), none⟩]
abbrev A67r7 : List AIns := [⟨(some 29), (.mv (.tmp 0)), none⟩, ⟨(some 30), (.faddr 1 (.tmp 3)), none⟩, ⟨(some 31), (.load false 1 (.tmp 30)), none⟩, ⟨(some 32), (.call (.fnc 77) [(.tmp 29), (.tmp 31)]), none⟩, ⟨(some 4), (.mv (.tmp 32)), none⟩]
abbrev A67d8 : List AIns := [⟨(some 33), (.mv (.tmp 0)), none⟩, ⟨(some 34), (.nilck (.tmp 33)), none⟩, ⟨(some 35), (.faddr 1 (.tmp 34)), none⟩, ⟨(some 36), (.load false 1 (.tmp 35)), none⟩, ⟨(some 37), (.mv (.tmp 0)), none⟩, ⟨(some 38), (.nilck (.tmp 37)), none⟩, ⟨(some 39), (.faddr 2 (.tmp 38)), none⟩, ⟨(some 40), (.load false 1 (.tmp 39)), none⟩, ⟨(some 41), (.mv (.tmp 4)), none⟩, ⟨(some 42), (.iaddr 3 (.tmp 40) (.tmp 41)), none⟩, ⟨(some 43), (.faddr 1 (.tmp 42)), none⟩, ⟨(some 44), (.load false 1 (.tmp 43)), none⟩, ⟨(some 45), (.mv (.tmp 0)), none⟩, ⟨(some 46), (.nilck (.tmp 45)), none⟩, ⟨(some 47), (.faddr 2 (.tmp 46)), none⟩, ⟨(some 48), (.load false 1 (.tmp 47)), none⟩, ⟨(some 49), (.mv (.tmp 4)), none⟩, ⟨(some 50), (.iaddr 3 (.tmp 48) (.tmp 49)), none⟩, ⟨(some 51), (.faddr 2 (.tmp 50)), none⟩, ⟨(some 52), (.load false 1 (.tmp 51)), none⟩, ⟨(some 53), (.iaddr 1 (.tmp 36) (.tmp 44)), none⟩, ⟨none, (.store 1 (.tmp 53) (.tmp 52)), none⟩]
abbrev A67d8p : List AIns := [⟨(some 33), (.mv (.tmp 0)), none⟩, ⟨(some 34), (.nilck (.tmp 33)), none⟩, ⟨(some 35), (.faddr 1 (.tmp 34)), none⟩, ⟨(some 36), (.load false 1 (.tmp 35)), none⟩, ⟨(some 37), (.mv (.tmp 0)), none⟩, ⟨(some 38), (.nilck (.tmp 37)), none⟩, ⟨(some 39), (.faddr 2 (.tmp 38)), none⟩, ⟨(some 40), (.load false 1 (.tmp 39)), none⟩, ⟨(some 41), (.mv (.tmp 4)), none⟩, ⟨(some 42), (.iaddr 3 (.tmp 40) (.tmp 41)), none⟩, ⟨(some 43), (.faddr 1 (.tmp 42)), none⟩, ⟨(some 44), (.load false 1 (.tmp 43)), none⟩, ⟨(some 45), (.mv (.tmp 0)), none⟩, ⟨(some 46), (.nilck (.tmp 45)), none⟩, ⟨(some 47), (.faddr 2 (.tmp 46)), none⟩, ⟨(some 48), (.load false 1 (.tmp 47)), none⟩, ⟨(some 49), (.mv (.tmp 4)), none⟩, ⟨(some 50), (.iaddr 3 (.tmp 48) (.tmp 49)), none⟩, ⟨(some 51), (.faddr 2 (.tmp 50)), none⟩, ⟨(some 52), (.load false 1 (.tmp 51)), none⟩, ⟨(some 53), (.iaddr 1 (.tmp 36) (.tmp 44)), none⟩]
abbrev A67r9 : List AIns := [⟨(some 54), (.mv (.tmp 0)), none⟩, ⟨(some 55), (.mv (.tmp 0)), none⟩, ⟨(some 56), (.nilck (.tmp 55)), none⟩, ⟨(some 57), (.faddr 2 (.tmp 56)), none⟩, ⟨(some 58), (.load false 1 (.tmp 57)), none⟩, ⟨(some 59), (.mv (.tmp 4)), none⟩, ⟨(some 60), (.mv (.tmp 4)), none⟩, ⟨(some 61), (.bin .add (.tmp 60) (.cst (.int .i64 1))), none⟩, ⟨(some 62), (.call (.fnc 78) [(.tmp 58), (.tmp 59), (.tmp 61)]), none⟩, ⟨(some 63), (.nilck (.tmp 54)), none⟩, ⟨(some 64), (.faddr 2 (.tmp 63)), none⟩, ⟨none, (.store 1 (.tmp 64) (.tmp 62)), none⟩]
abbrev A67c10 : ACode := (.seq (.reg A67r7 [0, 4]) (.seq (.dreg A67d8 [[], [0], [0, 1], [0, 1, 2], [], [4], [4, 5], [4, 5, 6], [], [4, 5, 6, 7, 8], [4, 5, 6, 7, 8, 9], [4, 5, 6, 7, 8, 9, 10], [], [12], [12, 13], [12, 13, 14], [], [12, 13, 14, 15, 16], [12, 13, 14, 15, 16, 17], [12, 13, 14, 15, 16, 17, 18], [0, 1, 2, 3, 4, 5, 6, 7, 8, 9, 10, 11, 12, 13, 14, 15, 16, 17, 18, 19], [0, 1, 2, 3, 4, 5, 6, 7, 8, 9, 10, 11, 12, 13, 14, 15, 16, 17, 18, 19, 20]] [0, 4]) (.reg A67r9 [])))
abbrev A67r11 : List AIns := [⟨(some 66), (.bin .eql (.tmp 8) (.cst (.int .i64 3))), none⟩, ⟨(some 65), (.mv (.tmp 66)), none⟩]
abbrev A67r12 : List AIns := [⟨(some 67), (.mv (.tmp 0)), none⟩, ⟨(some 68), (.nilck (.tmp 67)), none⟩, ⟨(some 69), (.faddr 1 (.tmp 68)), none⟩, ⟨(some 70), (.load false 1 (.tmp 69)), none⟩, ⟨(some 71), (.len (.tmp 70)), none⟩, ⟨(some 72), (.mv (.cst (.int .i64 0))), none⟩]
abbrev A67r14 : List AIns := [⟨(some 73), (.bin .lss (.tmp 72) (.tmp 71)), none⟩]
abbrev A67r15 : List AIns := [⟨(some 74), (.mv (.tmp 72)), none⟩, ⟨(some 75), (.iaddr 1 (.tmp 70) (.tmp 72)), none⟩, ⟨(some 76), (.load false 1 (.tmp 75)), none⟩, ⟨(some 5), (.mv (.tmp 74)), none⟩, ⟨(some 6), (.mv (.tmp 76)), none⟩]
abbrev A67r16 : List AIns := [⟨(some 77), (.mv (.tmp 6)), none⟩, ⟨(some 78), (.eqN true (.tmp 77)), none⟩]
abbrev A67d17 : List AIns := [⟨(some 79), (.mv (.tmp 0)), none⟩, ⟨(some 80), (.nilck (.tmp 79)), none⟩, ⟨(some 81), (.faddr 0 (.tmp 80)), none⟩, ⟨(some 82), (.load false 1 (.tmp 81)), none⟩, ⟨(some 83), (.mv (.tmp 5)), none⟩, ⟨(some 84), (.mv (.tmp 0)), none⟩, ⟨(some 85), (.nilck (.tmp 84)), none⟩, ⟨(some 86), (.faddr 1 (.tmp 85)), none⟩, ⟨(some 87), (.load false 1 (.tmp 86)), none⟩, ⟨(some 88), (.mv (.tmp 5)), none⟩, ⟨(some 89), (.mv (.tmp 6)), none⟩, ⟨(some 90), (.iaddr 1 (.tmp 82) (.tmp 83)), none⟩, ⟨none, (.store 1 (.tmp 90) (.tmp 89)), none⟩, ⟨(some 91), (.iaddr 1 (.tmp 87) (.tmp 88)), none⟩, ⟨none, (.store 1 (.tmp 91) (.cst .nil)), none⟩]
abbrev A67d17a : List AIns := [⟨(some 79), (.mv (.tmp 0)), none⟩, ⟨(some 80), (.nilck (.tmp 79)), none⟩, ⟨(some 81), (.faddr 0 (.tmp 80)), none⟩, ⟨(some 82), (.load false 1 (.tmp 81)), none⟩, ⟨(some 83), (.mv (.tmp 5)), none⟩, ⟨(some 84), (.mv (.tmp 0)), none⟩, ⟨(some 85), (.nilck (.tmp 84)), none⟩, ⟨(some 86), (.faddr 1 (.tmp 85)), none⟩, ⟨(some 87), (.load false 1 (.tmp 86)), none⟩, ⟨(some 88), (.mv (.tmp 5)), none⟩, ⟨(some 89), (.mv (.tmp 6)), none⟩, ⟨(some 90), (.iaddr 1 (.tmp 82) (.tmp 83)), none⟩]
abbrev A67d17b : List AIns := [⟨none, (.store 1 (.tmp 90) (.tmp 89)), none⟩, ⟨(some 91), (.iaddr 1 (.tmp 87) (.tmp 88)), none⟩, ⟨none, (.store 1 (.tmp 91) (.cst .nil)), none⟩]
abbrev A67c18 : ACode := (.dreg A67d17 [[], [0], [0, 1], [0, 1, 2], [], [], [5], [5, 6], [5, 6, 7], [], [], [0, 1, 2, 3, 4, 5, 6, 7, 8, 10], [0, 1, 2, 3, 4, 5, 6, 7, 8, 10, 11], [0, 1, 2, 3, 4, 5, 6, 7, 8, 9, 10, 11, 12], [0, 1, 2, 3, 4, 5, 6, 7, 8, 9, 10, 11, 12, 13]] [0, 70, 71, 72])
abbrev A67c19 : ACode := (.seq (.reg A67r15 [0, 5, 6, 70, 71, 72]) (.seq (.reg A67r16 [0, 5, 6, 70, 71, 72, 78]) (.cond (.tmp 78) [0, 5, 6, 70, 71, 72] A67c18 [0, 70, 71, 72] .skip)))
abbrev A67r20 : List AIns := [⟨(some 92), (.bin .add (.tmp 72) (.cst (.int .i64 1))), none⟩, ⟨(some 72), (.mv (.tmp 92)), none⟩]
abbrev A67l13 : ACode := (.seq (.reg A67r14 [0, 70, 71, 72, 73]) (.seq (.cond (.tmp 73) [0, 70, 71, 72] .skip [] (.exit 1)) (.seq (.block 2 A67c19) (.reg A67r20 [0, 70, 71, 72]))))
abbrev A67c21 : ACode := (.seq (.reg A67r12 [0, 70, 71, 72]) (.block 1 (.loop A67l13)))
abbrev A67c22 : ACode := (.seq (.reg A67r11 [0, 65]) (.cond (.tmp 65) [0] A67c21 [] .skip))
abbrev A67c23 : ACode := (.seq (.reg A67r6 [0, 3, 8, 27]) (.cond (.tmp 27) [0, 3] A67c10 [0, 8] A67c22))
abbrev A67c24 : ACode := (.seq (.reg A67r3 [0, 3, 8, 9]) (.cond (.tmp 9) [0, 3] A67c5 [0, 3, 8] A67c23))
def A67 : AFun := ⟨93, 2, [], (.seq (.reg A67r1 [0, 3]) (.seq (.reg A67r2 [0, 3, 8]) (.block 0 A67c24)))⟩
theorem A67c : compF Try.prog Try.f67 = some A67 := by kernel_rfl
theorem A67k : Callable Try.prog 67 := fun a w => Try.call67 a w
/- (*estovers/durable.state).choices$1 -/
abbrev A68r1 : List AIns := [⟨(some 3), (.mv (.cst (.bool false))), none⟩]
abbrev A68r2 : List AIns := [⟨(some 4), (.load false 1 (.tmp 1)), none⟩, ⟨(some 5), (.mv (.tmp 0)), none⟩, ⟨(some 6), (.call (.fnc 53) [(.tmp 4), (.tmp 5)]), none⟩, ⟨(some 3), (.mv (.tmp 6)), none⟩]
def A68 : AFun := ⟨7, 2, [(.tmp 3)], (.seq (.reg A68r1 [0, 1]) (.seq (.reg A68r2 [3]) .ret))⟩
theorem A68c : compF Try.prog Try.f68 = some A68 := by kernel_rfl
theorem A68k : Callable Try.prog 68 := fun a w => Try.call68 a w
theorem A68p {ds : List D} {r : D} (hl : ds.length ≤ A68.nt) (hw : W Try.prog A68.code (Fin A68.results r) ⟨argEnv 0 ds, fun _ => none⟩) : PCon Try.prog 68 ds r := pcon_of_W mixed Try.func68 A68k A68c hl hw
/- estovers/estoversref11.put -/
/- estovers/estoversref11.upto -/
/- slices.IndexFunc[[][]byte,[]byte] -/
abbrev A71r1 : List AIns := [⟨(some 4), (.mv (.cst (.int .i64 0))), none⟩]
abbrev A71r2 : List AIns := [⟨(some 6), (.mv (.tmp 0)), none⟩, ⟨(some 7), (.len (.tmp 6)), none⟩, ⟨(some 8), (.mv (.cst (.int .i64 0))), none⟩]
abbrev A71r4 : List AIns := [⟨(some 9), (.bin .lss (.tmp 8) (.tmp 7)), none⟩]
abbrev A71r5 : List AIns := [⟨(some 10), (.mv (.tmp 8)), none⟩, ⟨(some 5), (.mv (.tmp 10)), none⟩]
abbrev A71r6 : List AIns := [⟨(some 11), (.mv (.tmp 1)), none⟩, ⟨(some 12), (.mv (.tmp 0)), none⟩, ⟨(some 13), (.mv (.tmp 5)), none⟩, ⟨(some 14), (.iaddr 1 (.tmp 12) (.tmp 13)), none⟩, ⟨(some 15), (.load false 1 (.tmp 14)), none⟩, ⟨(some 16), (.call (.tmp 11) [(.tmp 15)]), none⟩]
abbrev A71r7 : List AIns := [⟨(some 17), (.mv (.tmp 5)), none⟩, ⟨(some 4), (.mv (.tmp 17)), none⟩]
abbrev A71c8 : ACode := (.seq (.reg A71r5 [0, 1, 5, 7, 8]) (.seq (.reg A71r6 [0, 1, 5, 7, 8, 16]) (.cond (.tmp 16) [5] (.seq (.reg A71r7 [4]) .ret) [0, 1, 7, 8] .skip)))
abbrev A71r9 : List AIns := [⟨(some 18), (.bin .add (.tmp 8) (.cst (.int .i64 1))), none⟩, ⟨(some 8), (.mv (.tmp 18)), none⟩]
abbrev A71l3 : ACode := (.seq (.reg A71r4 [0, 1, 7, 8, 9]) (.seq (.cond (.tmp 9) [0, 1, 7, 8] .skip [] (.exit 0)) (.seq (.block 1 A71c8) (.reg A71r9 [0, 1, 7, 8]))))
abbrev A71r10 : List AIns := [⟨(some 4), (.mv (.cst (.int .i64 (-1)))), none⟩]
def A71 : AFun := ⟨19, 2, [(.tmp 4)], (.seq (.reg A71r1 [0, 1]) (.seq (.seq (.reg A71r2 [0, 1, 7, 8]) (.block 0 (.loop A71l3))) (.seq (.reg A71r10 [4]) .ret)))⟩
theorem A71c : compF Try.prog Try.f71 = some A71 := by kernel_rfl
theorem A71k : Callable Try.prog 71 := fun a w => Try.call71 a w
theorem A71p {ds : List D} {r : D} (hl : ds.length ≤ A71.nt) (hw : W Try.prog A71.code (Fin A71.results r) ⟨argEnv 0 ds, fun _ => none⟩) : PCon Try.prog 71 ds r := pcon_of_W mixed Try.func71 A71k A71c hl hw
/- estovers/device.request -/
abbrev A72r1 : List AIns := [⟨(some 2), (.box (.tmp 0)), none⟩, ⟨(some 3), (.box (.tmp 1)), none⟩, ⟨(some 4), (.mv (.cst (.int .i64 0))), none⟩]
abbrev A72r2 : List AIns := [⟨(some 5), (.faddr 1 (.tmp 3)), none⟩, ⟨(some 6), (.load false 1 (.tmp 5)), none⟩]
abbrev A72r3 : List AIns := [⟨(some 8), (.bin .eql (.tmp 6) (.cst (.int .i64 1))), none⟩, ⟨(some 7), (.mv (.tmp 8)), none⟩]
abbrev A72r4 : List AIns := [⟨(some 9), (.bin .eql (.tmp 6) (.cst (.int .i64 2))), none⟩, ⟨(some 7), (.mv (.tmp 9)), none⟩]
abbrev A72r5 : List AIns := [⟨(some 10), (.faddr 2 (.tmp 3)), none⟩, ⟨(some 11), (.load false 1 (.tmp 10)), none⟩, ⟨(some 12), (.bin .lss (.tmp 11) (.cst (.int .i64 0))), none⟩, ⟨(some 13), (.mv (.tmp 12)), none⟩, ⟨(some 14), (.faddr 2 (.tmp 3)), (some (13, false))⟩, ⟨(some 15), (.load false 1 (.tmp 14)), (some (13, false))⟩, ⟨(some 16), (.faddr 2 (.tmp 2)), (some (13, false))⟩, ⟨(some 17), (.load false 1 (.tmp 16)), (some (13, false))⟩, ⟨(some 18), (.len (.tmp 17)), (some (13, false))⟩, ⟨(some 19), (.bin .geq (.tmp 15) (.tmp 18)), (some (13, false))⟩, ⟨(some 20), (.pick (.tmp 13) (.cst (.bool true)) (.tmp 19)), none⟩]
abbrev A72r6 : List AIns := [⟨(some 4), (.mv (.cst (.int .i64 2))), none⟩]
abbrev A72c7 : ACode := (.seq (.reg A72r5 [3, 20]) (.cond (.tmp 20) [] (.seq (.reg A72r6 [4]) .ret) [3] .skip))
abbrev A72r8 : List AIns := [⟨(some 22), (.bin .eql (.tmp 6) (.cst (.int .i64 3))), none⟩, ⟨(some 21), (.mv (.tmp 22)), none⟩]
abbrev A72r9 : List AIns := [⟨(some 23), (.faddr 2 (.tmp 3)), none⟩, ⟨(some 24), (.load false 1 (.tmp 23)), none⟩, ⟨(some 25), (.bin .neq (.tmp 24) (.cst (.int .i64 0))), none⟩]
abbrev A72r10 : List AIns := [⟨(some 4), (.mv (.cst (.int .i64 2))), none⟩]
abbrev A72c11 : ACode := (.seq (.reg A72r9 [3, 25]) (.cond (.tmp 25) [] (.seq (.reg A72r10 [4]) .ret) [3] .skip))
abbrev A72r12 : List AIns := [⟨(some 4), (.mv (.cst (.int .i64 1))), none⟩]
abbrev A72c13 : ACode := (.seq (.reg A72r8 [3, 21]) (.cond (.tmp 21) [3] A72c11 [] (.seq (.reg A72r12 [4]) .ret)))
abbrev A72c14 : ACode := (.seq (.seq (.reg A72r3 [2, 3, 6, 7]) (.cond (.tmp 7) [2, 3, 6, 7] .skip [2, 3, 6] (.reg A72r4 [2, 3, 6, 7]))) (.cond (.tmp 7) [2, 3] A72c7 [3, 6] A72c13))
abbrev A72r15 : List AIns := [⟨(some 26), (.faddr 1 (.tmp 3)), none⟩, ⟨(some 27), (.load false 1 (.tmp 26)), none⟩, ⟨(some 28), (.bin .eql (.tmp 27) (.cst (.int .i64 2))), none⟩, ⟨(some 29), (.mv (.tmp 28)), none⟩, ⟨(some 30), (.faddr 3 (.tmp 3)), (some (29, true))⟩, ⟨(some 31), (.load false 1 (.tmp 30)), (some (29, true))⟩, ⟨(some 32), (.call (.fnc 76) [(.tmp 31)]), (some (29, true))⟩, ⟨(some 33), (.un .not (.tmp 32)), (some (29, true))⟩, ⟨(some 34), (.pick (.tmp 29) (.tmp 33) (.cst (.bool false))), none⟩, ⟨(some 35), (.mv (.tmp 34)), none⟩, ⟨(some 36), (.faddr 1 (.tmp 3)), (some (35, false))⟩, ⟨(some 37), (.load false 1 (.tmp 36)), (some (35, false))⟩, ⟨(some 38), (.bin .neq (.tmp 37) (.cst (.int .i64 2))), (some (35, false))⟩, ⟨(some 39), (.mv (.tmp 38)), (some (35, false))⟩, ⟨(some 40), (.faddr 3 (.tmp 3)), (some (39, true))⟩, ⟨(some 41), (.load false 1 (.tmp 40)), (some (39, true))⟩, ⟨(some 42), (.len (.tmp 41)), (some (39, true))⟩, ⟨(some 43), (.bin .neq (.tmp 42) (.cst (.int .i64 0))), (some (39, true))⟩, ⟨(some 44), (.pick (.tmp 39) (.tmp 43) (.cst (.bool false))), (some (35, false))⟩, ⟨(some 45), (.pick (.tmp 35) (.cst (.bool true)) (.tmp 44)), none⟩]
abbrev A72r16 : List AIns := [⟨(some 4), (.mv (.cst (.int .i64 3))), none⟩]
abbrev A72r17 : List AIns := [⟨(some 4), (.mv (.cst (.int .i64 0))), none⟩]
def A72 : AFun := ⟨46, 2, [(.tmp 4)], (.seq (.reg A72r1 [2, 3]) (.seq (.seq (.reg A72r2 [2, 3, 6]) (.block 0 A72c14)) (.seq (.seq (.reg A72r15 [45]) (.cond (.tmp 45) [] (.seq (.reg A72r16 [4]) .ret) [] .skip)) (.seq (.reg A72r17 [4]) .ret))))⟩
theorem A72c : compF Try.prog Try.f72 = some A72 := by kernel_rfl
theorem A72k : Callable Try.prog 72 := fun a w => Try.call72 a w
theorem A72p {ds : List D} {r : D} (hl : ds.length ≤ A72.nt) (hw : W Try.prog A72.code (Fin A72.results r) ⟨argEnv 0 ds, fun _ => none⟩) : PCon Try.prog 72 ds r := pcon_of_W mixed Try.func72 A72k A72c hl hw
/- slices.Delete[[]estovers/api.Request,estovers/api.Request] -/
abbrev A73r1 : List AIns := [⟨(some 6), (.mv (.cst .nil)), none⟩]
abbrev A73r2 : List AIns := [⟨(some 8), (.mv (.tmp 0)), none⟩, ⟨(some 9), (.mv (.tmp 1)), none⟩, ⟨(some 10), (.mv (.tmp 2)), none⟩, ⟨(some 11), (.mv (.tmp 0)), none⟩, ⟨(some 12), (.len (.tmp 11)), none⟩, ⟨(some 13), (.slice3 4 (.tmp 8) (some (.tmp 9)) (.tmp 10) (.tmp 12)), none⟩]
abbrev A73r3 : List AIns := [⟨(some 14), (.mv (.tmp 1)), none⟩, ⟨(some 15), (.mv (.tmp 2)), none⟩, ⟨(some 16), (.bin .eql (.tmp 14) (.tmp 15)), none⟩]
abbrev A73r4 : List AIns := [⟨(some 17), (.mv (.tmp 0)), none⟩, ⟨(some 6), (.mv (.tmp 17)), none⟩]
abbrev A73r5 : List AIns := [⟨(some 18), (.mv (.tmp 0)), none⟩, ⟨(some 19), (.len (.tmp 18)), none⟩, ⟨(some 7), (.mv (.tmp 19)), none⟩]
abbrev A73d6 : List AIns := [⟨(some 20), (.mv (.tmp 0)), none⟩, ⟨(some 21), (.mv (.tmp 1)), none⟩, ⟨(some 22), (.slice 4 (.tmp 20) none (some (.tmp 21))), none⟩, ⟨(some 23), (.mv (.tmp 0)), none⟩, ⟨(some 24), (.mv (.tmp 2)), none⟩, ⟨(some 25), (.slice 4 (.tmp 23) (some (.tmp 24)) none), none⟩, ⟨(some 26), (.append 4 48 (.tmp 22) (.tmp 25)), none⟩, ⟨(some 0), (.mv (.tmp 26)), none⟩]
abbrev A73d6a : List AIns := [⟨(some 20), (.mv (.tmp 0)), none⟩, ⟨(some 21), (.mv (.tmp 1)), none⟩, ⟨(some 22), (.slice 4 (.tmp 20) none (some (.tmp 21))), none⟩, ⟨(some 23), (.mv (.tmp 0)), none⟩, ⟨(some 24), (.mv (.tmp 2)), none⟩, ⟨(some 25), (.slice 4 (.tmp 23) (some (.tmp 24)) none), none⟩]
abbrev A73d6b : List AIns := [⟨(some 26), (.append 4 48 (.tmp 22) (.tmp 25)), none⟩, ⟨(some 0), (.mv (.tmp 26)), none⟩]
abbrev A73r7 : List AIns := [⟨(some 27), (.mv (.tmp 0)), none⟩, ⟨(some 28), (.mv (.tmp 0)), none⟩, ⟨(some 29), (.len (.tmp 28)), none⟩, ⟨(some 30), (.mv (.tmp 7)), none⟩, ⟨(some 31), (.sliceM 4 (.tmp 27) (.tmp 29) (.tmp 30)), none⟩, ⟨none, (.clear 4 [(.int .i64 0), (.int .i64 0), (.int .i64 0), .nil] (.tmp 31)), none⟩]
abbrev A73r8 : List AIns := [⟨(some 32), (.mv (.tmp 0)), none⟩, ⟨(some 6), (.mv (.tmp 32)), none⟩]
def A73 : AFun := ⟨33, 3, [(.tmp 6)], (.seq (.reg A73r1 [0, 1, 2]) (.seq (.reg A73r2 [0, 1, 2]) (.seq (.seq (.reg A73r3 [0, 1, 2, 16]) (.cond (.tmp 16) [0] (.seq (.reg A73r4 [6]) .ret) [0, 1, 2] .skip)) (.seq (.reg A73r5 [0, 1, 2, 7]) (.seq (.dreg A73d6 [[], [], [0, 1], [], [], [3, 4], [0, 1, 2, 3, 4, 5], [0, 1, 2, 3, 4, 5, 6]] [0, 7]) (.seq (.reg A73r7 [0]) (.seq (.reg A73r8 [6]) .ret)))))))⟩
theorem A73c : compF Try.prog Try.f73 = some A73 := by kernel_rfl
theorem A73k : Callable Try.prog 73 := fun a w => Try.call73 a w
/- estovers/device.find -/
abbrev A74r1 : List AIns := [⟨(some 2), (.box (.tmp 0)), none⟩, ⟨(some 4), (.mv (.cst (.int .i64 0))), none⟩, ⟨(some 5), (.mv (.cst (.bool false))), none⟩]
abbrev A74r2 : List AIns := [⟨(some 6), (.faddr 3 (.tmp 2)), none⟩, ⟨(some 7), (.load false 1 (.tmp 6)), none⟩, ⟨(some 8), (.mv (.tmp 1)), none⟩, ⟨(some 9), (.call (.fnc 80) [(.tmp 7), (.tmp 8), (.fnc 81)]), none⟩, ⟨(some 10), (.extract 0 (.tmp 9)), none⟩, ⟨(some 11), (.extract 1 (.tmp 9)), none⟩, ⟨(some 4), (.mv (.tmp 10)), none⟩, ⟨(some 5), (.mv (.tmp 11)), none⟩]
def A74 : AFun := ⟨12, 2, [(.tmp 4), (.tmp 5)], (.seq (.reg A74r1 [1, 2]) (.seq (.reg A74r2 [4, 5]) .ret))⟩
theorem A74c : compF Try.prog Try.f74 = some A74 := by kernel_rfl
theorem A74k : Callable Try.prog 74 := fun a w => Try.call74 a w
theorem A74p {ds : List D} {r : D} (hl : ds.length ≤ A74.nt) (hw : W Try.prog A74.code (Fin A74.results r) ⟨argEnv 0 ds, fun _ => none⟩) : PCon Try.prog 74 ds r := pcon_of_W mixed Try.func74 A74k A74c hl hw
/- slices.Insert[[]estovers/api.Cached,estovers/api.Cached] -/
abbrev A75r1 : List AIns := [⟨(some 6), (.mv (.cst .nil)), none⟩]
abbrev A75r2 : List AIns := [⟨(some 10), (.mv (.tmp 0)), none⟩, ⟨(some 11), (.mv (.tmp 1)), none⟩, ⟨(some 12), (.slice 2 (.tmp 10) (some (.tmp 11)) none), none⟩]
abbrev A75r3 : List AIns := [⟨(some 13), (.mv (.tmp 2)), none⟩, ⟨(some 14), (.len (.tmp 13)), none⟩, ⟨(some 7), (.mv (.tmp 14)), none⟩]
abbrev A75r4 : List AIns := [⟨(some 15), (.mv (.tmp 7)), none⟩, ⟨(some 16), (.bin .eql (.tmp 15) (.cst (.int .i64 0))), none⟩]
abbrev A75r5 : List AIns := [⟨(some 17), (.mv (.tmp 0)), none⟩, ⟨(some 6), (.mv (.tmp 17)), none⟩]
abbrev A75r6 : List AIns := [⟨(some 18), (.mv (.tmp 0)), none⟩, ⟨(some 19), (.len (.tmp 18)), none⟩, ⟨(some 8), (.mv (.tmp 19)), none⟩]
abbrev A75r7 : List AIns := [⟨(some 20), (.mv (.tmp 1)), none⟩, ⟨(some 21), (.mv (.tmp 8)), none⟩, ⟨(some 22), (.bin .eql (.tmp 20) (.tmp 21)), none⟩]
abbrev A75r8 : List AIns := [⟨(some 23), (.mv (.tmp 0)), none⟩, ⟨(some 24), (.mv (.tmp 2)), none⟩, ⟨(some 25), (.append 2 32 (.tmp 23) (.tmp 24)), none⟩, ⟨(some 6), (.mv (.tmp 25)), none⟩]
abbrev A75r9 : List AIns := [⟨(some 26), (.mv (.tmp 8)), none⟩, ⟨(some 27), (.mv (.tmp 7)), none⟩, ⟨(some 28), (.bin .add (.tmp 26) (.tmp 27)), none⟩, ⟨(some 29), (.mv (.tmp 0)), none⟩, ⟨(some 30), .bad, none⟩, ⟨(some 31), (.bin .gtr (.tmp 28) (.tmp 30)), none⟩]
abbrev A75r10 : List AIns := [⟨(some 32), (.mv (.tmp 0)), none⟩, ⟨(some 33), (.mv (.tmp 1)), none⟩, ⟨(some 34), (.slice 2 (.tmp 32) none (some (.tmp 33))), none⟩, ⟨(some 35), (.mv (.tmp 8)), none⟩, ⟨(some 36), (.mv (.tmp 7)), none⟩, ⟨(some 37), (.bin .add (.tmp 35) (.tmp 36)), none⟩, ⟨(some 38), (.mv (.tmp 1)), none⟩, ⟨(some 39), (.bin .sub (.tmp 37) (.tmp 38)), none⟩, ⟨(some 40), .bad, none⟩, ⟨(some 9), (.mv (.tmp 40)), none⟩]
abbrev A75r11 : List AIns := [⟨(some 41), (.mv (.tmp 9)), none⟩, ⟨(some 42), (.mv (.tmp 1)), none⟩, ⟨(some 43), (.slice 2 (.tmp 41) (some (.tmp 42)) none), none⟩, ⟨(some 44), (.mv (.tmp 2)), none⟩, ⟨(some 45), (.copy 2 (.tmp 43) (.tmp 44)), none⟩]
abbrev A75d12 : List AIns := [⟨(some 46), (.mv (.tmp 9)), none⟩, ⟨(some 47), (.mv (.tmp 1)), none⟩, ⟨(some 48), (.mv (.tmp 7)), none⟩, ⟨(some 49), (.bin .add (.tmp 47) (.tmp 48)), none⟩, ⟨(some 50), (.slice 2 (.tmp 46) (some (.tmp 49)) none), none⟩, ⟨(some 51), (.mv (.tmp 0)), none⟩, ⟨(some 52), (.mv (.tmp 1)), none⟩, ⟨(some 53), (.slice 2 (.tmp 51) (some (.tmp 52)) none), none⟩, ⟨(some 54), (.copy 2 (.tmp 50) (.tmp 53)), none⟩]
abbrev A75r13 : List AIns := [⟨(some 55), (.mv (.tmp 9)), none⟩, ⟨(some 6), (.mv (.tmp 55)), none⟩]
abbrev A75c14 : ACode := (.seq (.reg A75r10 [0, 1, 2, 7, 9]) (.seq (.reg A75r11 [0, 1, 7, 9]) (.seq (.dreg A75d12 [[], [], [], [1, 2], [0, 1, 2, 3], [], [], [5, 6], [0, 1, 2, 3, 4, 5, 6, 7]] [9]) (.seq (.reg A75r13 [6]) .ret))))
abbrev A75r15 : List AIns := [⟨(some 56), (.mv (.tmp 0)), none⟩, ⟨(some 57), (.mv (.tmp 8)), none⟩, ⟨(some 58), (.mv (.tmp 7)), none⟩, ⟨(some 59), (.bin .add (.tmp 57) (.tmp 58)), none⟩, ⟨(some 60), (.slice 2 (.tmp 56) none (some (.tmp 59))), none⟩, ⟨(some 0), (.mv (.tmp 60)), none⟩]
abbrev A75r16 : List AIns := [⟨(some 61), (.mv (.tmp 2)), none⟩, ⟨(some 62), (.mv (.tmp 0)), none⟩, ⟨(some 63), (.mv (.tmp 1)), none⟩, ⟨(some 64), (.mv (.tmp 7)), none⟩, ⟨(some 65), (.bin .add (.tmp 63) (.tmp 64)), none⟩, ⟨(some 66), (.slice 2 (.tmp 62) (some (.tmp 65)) none), none⟩, ⟨(some 67), (.call (.fnc 82) [(.tmp 61), (.tmp 66)]), none⟩, ⟨(some 68), (.un .not (.tmp 67)), none⟩]
abbrev A75d17 : List AIns := [⟨(some 69), (.mv (.tmp 0)), none⟩, ⟨(some 70), (.mv (.tmp 1)), none⟩, ⟨(some 71), (.mv (.tmp 7)), none⟩, ⟨(some 72), (.bin .add (.tmp 70) (.tmp 71)), none⟩, ⟨(some 73), (.slice 2 (.tmp 69) (some (.tmp 72)) none), none⟩, ⟨(some 74), (.mv (.tmp 0)), none⟩, ⟨(some 75), (.mv (.tmp 1)), none⟩, ⟨(some 76), (.slice 2 (.tmp 74) (some (.tmp 75)) none), none⟩, ⟨(some 77), (.copy 2 (.tmp 73) (.tmp 76)), none⟩]
abbrev A75r18 : List AIns := [⟨(some 78), (.mv (.tmp 0)), none⟩, ⟨(some 79), (.mv (.tmp 1)), none⟩, ⟨(some 80), (.slice 2 (.tmp 78) (some (.tmp 79)) none), none⟩, ⟨(some 81), (.mv (.tmp 2)), none⟩, ⟨(some 82), (.copy 2 (.tmp 80) (.tmp 81)), none⟩]
abbrev A75r19 : List AIns := [⟨(some 83), (.mv (.tmp 0)), none⟩, ⟨(some 6), (.mv (.tmp 83)), none⟩]
abbrev A75c20 : ACode := (.seq (.dreg A75d17 [[], [], [], [1, 2], [0, 1, 2, 3], [], [], [5, 6], [0, 1, 2, 3, 4, 5, 6, 7]] [0, 1, 2]) (.seq (.reg A75r18 [0]) (.seq (.reg A75r19 [6]) .ret)))
abbrev A75r21 : List AIns := [⟨(some 84), (.mv (.tmp 0)), none⟩, ⟨(some 85), (.mv (.tmp 8)), none⟩, ⟨(some 86), (.slice 2 (.tmp 84) (some (.tmp 85)) none), none⟩, ⟨(some 87), (.mv (.tmp 2)), none⟩, ⟨(some 88), (.copy 2 (.tmp 86) (.tmp 87)), none⟩]
abbrev A75r22 : List AIns := [⟨(some 89), (.mv (.tmp 0)), none⟩, ⟨(some 90), (.mv (.tmp 1)), none⟩, ⟨(some 91), (.slice 2 (.tmp 89) (some (.tmp 90)) none), none⟩, ⟨(some 92), (.mv (.tmp 7)), none⟩, ⟨(some 93), (.call (.fnc 83) [(.tmp 91), (.tmp 92)]), none⟩]
abbrev A75r23 : List AIns := [⟨(some 94), (.mv (.tmp 0)), none⟩, ⟨(some 6), (.mv (.tmp 94)), none⟩]
def A75 : AFun := ⟨95, 3, [(.tmp 6)], (.seq (.reg A75r1 [0, 1, 2]) (.seq (.reg A75r2 [0, 1, 2]) (.seq (.reg A75r3 [0, 1, 2, 7]) (.seq (.seq (.reg A75r4 [0, 1, 2, 7, 16]) (.cond (.tmp 16) [0] (.seq (.reg A75r5 [6]) .ret) [0, 1, 2, 7] .skip)) (.seq (.reg A75r6 [0, 1, 2, 7, 8]) (.seq (.seq (.reg A75r7 [0, 1, 2, 7, 8, 22]) (.cond (.tmp 22) [0, 2] (.seq (.reg A75r8 [6]) .ret) [0, 1, 2, 7, 8] .skip)) (.seq (.seq (.reg A75r9 [0, 1, 2, 7, 8, 31]) (.cond (.tmp 31) [0, 1, 2, 7, 8] A75c14 [0, 1, 2, 7, 8] .skip)) (.seq (.reg A75r15 [0, 1, 2, 7, 8]) (.seq (.seq (.reg A75r16 [0, 1, 2, 7, 8, 68]) (.cond (.tmp 68) [0, 1, 2, 7] A75c20 [0, 1, 2, 7, 8] .skip)) (.seq (.reg A75r21 [0, 1, 7]) (.seq (.reg A75r22 [0]) (.seq (.reg A75r23 [6]) .ret))))))))))))⟩
theorem A75c : compF Try.prog Try.f75 = some A75 := by kernel_rfl
theorem A75k : Callable Try.prog 75 := fun a w => Try.call75 a w
/- estovers/device.page -/
abbrev A76r1 : List AIns := [⟨(some 2), (.mv (.cst (.bool false))), none⟩]
abbrev A76r2 : List AIns := [⟨(some 3), (.mv (.tmp 0)), none⟩, ⟨(some 4), (.len (.tmp 3)), none⟩, ⟨(some 5), (.bin .eql (.tmp 4) (.cst (.int .i64 32))), none⟩, ⟨(some 2), (.mv (.tmp 5)), none⟩]
def A76 : AFun := ⟨6, 1, [(.tmp 2)], (.seq (.reg A76r1 [0]) (.seq (.reg A76r2 [2]) .ret))⟩
theorem A76c : compF Try.prog Try.f76 = some A76 := by kernel_rfl
theorem A76k : Callable Try.prog 76 := fun a w => Try.call76 a w
theorem A76p {ds : List D} {r : D} (hl : ds.length ≤ A76.nt) (hw : W Try.prog A76.code (Fin A76.results r) ⟨argEnv 0 ds, fun _ => none⟩) : PCon Try.prog 76 ds r := pcon_of_W mixed Try.func76 A76k A76c hl hw
/- (*estovers/durable.state).find -/
abbrev A77r1 : List AIns := [⟨(some 3), (.box (.tmp 1)), none⟩, ⟨(some 4), (.mv (.cst (.int .i64 0))), none⟩]
abbrev A77r2 : List AIns := [⟨(some 5), (.mv (.tmp 0)), none⟩, ⟨(some 6), (.nilck (.tmp 5)), none⟩, ⟨(some 7), (.faddr 2 (.tmp 6)), none⟩, ⟨(some 8), (.load false 1 (.tmp 7)), none⟩, ⟨(some 9), (.mkfn 85 [] [(.tmp 3)]), none⟩, ⟨(some 10), (.call (.fnc 84) [(.tmp 8), (.tmp 9)]), none⟩, ⟨(some 4), (.mv (.tmp 10)), none⟩]
def A77 : AFun := ⟨11, 2, [(.tmp 4)], (.seq (.reg A77r1 [0, 3]) (.seq (.reg A77r2 [4]) .ret))⟩
theorem A77c : compF Try.prog Try.f77 = some A77 := by kernel_rfl
theorem A77k : Callable Try.prog 77 := fun a w => Try.call77 a w
/- slices.Delete[[]estovers/durable.pending,estovers/durable.pending] -/
abbrev A78r1 : List AIns := [⟨(some 6), (.mv (.cst .nil)), none⟩]
abbrev A78r2 : List AIns := [⟨(some 8), (.mv (.tmp 0)), none⟩, ⟨(some 9), (.mv (.tmp 1)), none⟩, ⟨(some 10), (.mv (.tmp 2)), none⟩, ⟨(some 11), (.mv (.tmp 0)), none⟩, ⟨(some 12), (.len (.tmp 11)), none⟩, ⟨(some 13), (.slice3 3 (.tmp 8) (some (.tmp 9)) (.tmp 10) (.tmp 12)), none⟩]
abbrev A78r3 : List AIns := [⟨(some 14), (.mv (.tmp 1)), none⟩, ⟨(some 15), (.mv (.tmp 2)), none⟩, ⟨(some 16), (.bin .eql (.tmp 14) (.tmp 15)), none⟩]
abbrev A78r4 : List AIns := [⟨(some 17), (.mv (.tmp 0)), none⟩, ⟨(some 6), (.mv (.tmp 17)), none⟩]
abbrev A78r5 : List AIns := [⟨(some 18), (.mv (.tmp 0)), none⟩, ⟨(some 19), (.len (.tmp 18)), none⟩, ⟨(some 7), (.mv (.tmp 19)), none⟩]
abbrev A78d6 : List AIns := [⟨(some 20), (.mv (.tmp 0)), none⟩, ⟨(some 21), (.mv (.tmp 1)), none⟩, ⟨(some 22), (.slice 3 (.tmp 20) none (some (.tmp 21))), none⟩, ⟨(some 23), (.mv (.tmp 0)), none⟩, ⟨(some 24), (.mv (.tmp 2)), none⟩, ⟨(some 25), (.slice 3 (.tmp 23) (some (.tmp 24)) none), none⟩, ⟨(some 26), (.append 3 40 (.tmp 22) (.tmp 25)), none⟩, ⟨(some 0), (.mv (.tmp 26)), none⟩]
abbrev A78d6a : List AIns := [⟨(some 20), (.mv (.tmp 0)), none⟩, ⟨(some 21), (.mv (.tmp 1)), none⟩, ⟨(some 22), (.slice 3 (.tmp 20) none (some (.tmp 21))), none⟩, ⟨(some 23), (.mv (.tmp 0)), none⟩, ⟨(some 24), (.mv (.tmp 2)), none⟩, ⟨(some 25), (.slice 3 (.tmp 23) (some (.tmp 24)) none), none⟩]
abbrev A78d6b : List AIns := [⟨(some 26), (.append 3 40 (.tmp 22) (.tmp 25)), none⟩, ⟨(some 0), (.mv (.tmp 26)), none⟩]
abbrev A78r7 : List AIns := [⟨(some 27), (.mv (.tmp 0)), none⟩, ⟨(some 28), (.mv (.tmp 0)), none⟩, ⟨(some 29), (.len (.tmp 28)), none⟩, ⟨(some 30), (.mv (.tmp 7)), none⟩, ⟨(some 31), (.sliceM 3 (.tmp 27) (.tmp 29) (.tmp 30)), none⟩, ⟨none, (.clear 3 [(.int .i64 0), (.int .i64 0), .nil] (.tmp 31)), none⟩]
abbrev A78r8 : List AIns := [⟨(some 32), (.mv (.tmp 0)), none⟩, ⟨(some 6), (.mv (.tmp 32)), none⟩]
def A78 : AFun := ⟨33, 3, [(.tmp 6)], (.seq (.reg A78r1 [0, 1, 2]) (.seq (.reg A78r2 [0, 1, 2]) (.seq (.seq (.reg A78r3 [0, 1, 2, 16]) (.cond (.tmp 16) [0] (.seq (.reg A78r4 [6]) .ret) [0, 1, 2] .skip)) (.seq (.reg A78r5 [0, 1, 2, 7]) (.seq (.dreg A78d6 [[], [], [0, 1], [], [], [3, 4], [0, 1, 2, 3, 4, 5], [0, 1, 2, 3, 4, 5, 6]] [0, 7]) (.seq (.reg A78r7 [0]) (.seq (.reg A78r8 [6]) .ret)))))))⟩
theorem A78c : compF Try.prog Try.f78 = some A78 := by kernel_rfl
theorem A78k : Callable Try.prog 78 := fun a w => Try.call78 a w
/- estovers/estoversref11.last -/
/- slices.BinarySearchFunc[[]estovers/api.Cached,estovers/api.Cached,int] -/
abbrev A80r1 : List AIns := [⟨(some 6), (.mv (.cst (.int .i64 0))), none⟩, ⟨(some 7), (.mv (.cst (.bool false))), none⟩]
abbrev A80r2 : List AIns := [⟨(some 12), (.mv (.tmp 0)), none⟩, ⟨(some 13), (.len (.tmp 12)), none⟩, ⟨(some 8), (.mv (.tmp 13)), none⟩]
abbrev A80r3 : List AIns := [⟨(some 14), (.mv (.tmp 8)), none⟩, ⟨(some 9), (.mv (.cst (.int .i64 0))), none⟩, ⟨(some 10), (.mv (.tmp 14)), none⟩]
abbrev A80r5 : List AIns := [⟨(some 15), (.mv (.tmp 9)), none⟩, ⟨(some 16), (.mv (.tmp 10)), none⟩, ⟨(some 17), (.bin .lss (.tmp 15) (.tmp 16)), none⟩]
abbrev A80r6 : List AIns := [⟨(some 18), (.mv (.tmp 9)), none⟩, ⟨(some 19), (.mv (.tmp 10)), none⟩, ⟨(some 20), (.bin .add (.tmp 18) (.tmp 19)), none⟩, ⟨(some 21), (.conv .u64 (.tmp 20)), none⟩, ⟨(some 22), (.bin .shr (.tmp 21) (.cst (.int .u64 1))), none⟩, ⟨(some 23), (.conv .i64 (.tmp 22)), none⟩, ⟨(some 11), (.mv (.tmp 23)), none⟩]
abbrev A80r7 : List AIns := [⟨(some 24), (.mv (.tmp 2)), none⟩, ⟨(some 25), (.mv (.tmp 0)), none⟩, ⟨(some 26), (.mv (.tmp 11)), none⟩, ⟨(some 27), (.iaddr 2 (.tmp 25) (.tmp 26)), none⟩, ⟨(some 28), (.load true 2 (.tmp 27)), none⟩, ⟨(some 29), (.mv (.tmp 1)), none⟩, ⟨(some 30), (.call (.tmp 24) [(.tmp 28), (.tmp 29)]), none⟩, ⟨(some 31), (.bin .lss (.tmp 30) (.cst (.int .i64 0))), none⟩]
abbrev A80r8 : List AIns := [⟨(some 32), (.mv (.tmp 11)), none⟩, ⟨(some 33), (.bin .add (.tmp 32) (.cst (.int .i64 1))), none⟩, ⟨(some 9), (.mv (.tmp 33)), none⟩]
abbrev A80r9 : List AIns := [⟨(some 34), (.mv (.tmp 11)), none⟩, ⟨(some 10), (.mv (.tmp 34)), none⟩]
abbrev A80c10 : ACode := (.seq (.reg A80r6 [0, 1, 2, 8, 9, 10, 11]) (.seq (.reg A80r7 [0, 1, 2, 8, 9, 10, 11, 31]) (.cond (.tmp 31) [0, 1, 2, 8, 10, 11] (.reg A80r8 [0, 1, 2, 8, 9, 10]) [0, 1, 2, 8, 9, 11] (.reg A80r9 [0, 1, 2, 8, 9, 10]))))
abbrev A80l4 : ACode := (.seq (.seq (.reg A80r5 [0, 1, 2, 8, 9, 10, 17]) (.cond (.tmp 17) [0, 1, 2, 8, 9, 10] .skip [0, 1, 2, 8, 9] (.exit 0))) (.block 1 A80c10))
abbrev A80r11 : List AIns := [⟨(some 35), (.mv (.tmp 9)), none⟩, ⟨(some 36), (.mv (.tmp 9)), none⟩, ⟨(some 37), (.mv (.tmp 8)), none⟩, ⟨(some 38), (.bin .lss (.tmp 36) (.tmp 37)), none⟩, ⟨(some 39), (.mv (.tmp 38)), none⟩, ⟨(some 40), (.mv (.tmp 2)), (some (39, true))⟩, ⟨(some 41), (.mv (.tmp 0)), (some (39, true))⟩, ⟨(some 42), (.mv (.tmp 9)), (some (39, true))⟩, ⟨(some 43), (.iaddr 2 (.tmp 41) (.tmp 42)), (some (39, true))⟩, ⟨(some 44), (.load true 2 (.tmp 43)), (some (39, true))⟩, ⟨(some 45), (.mv (.tmp 1)), (some (39, true))⟩, ⟨(some 46), (.call (.tmp 40) [(.tmp 44), (.tmp 45)]), (some (39, true))⟩, ⟨(some 47), (.bin .eql (.tmp 46) (.cst (.int .i64 0))), (some (39, true))⟩, ⟨(some 48), (.pick (.tmp 39) (.tmp 47) (.cst (.bool false))), none⟩, ⟨(some 6), (.mv (.tmp 35)), none⟩, ⟨(some 7), (.mv (.tmp 48)), none⟩]
def A80 : AFun := ⟨49, 3, [(.tmp 6), (.tmp 7)], (.seq (.reg A80r1 [0, 1, 2]) (.seq (.reg A80r2 [0, 1, 2, 8]) (.seq (.reg A80r3 [0, 1, 2, 8, 9, 10]) (.seq (.block 0 (.loop A80l4)) (.seq (.reg A80r11 [6, 7]) .ret)))))⟩
theorem A80c : compF Try.prog Try.f80 = some A80 := by kernel_rfl
theorem A80k : Callable Try.prog 80 := fun a w => Try.call80 a w
theorem A80p {ds : List D} {r : D} (hl : ds.length ≤ A80.nt) (hw : W Try.prog A80.code (Fin A80.results r) ⟨argEnv 0 ds, fun _ => none⟩) : PCon Try.prog 80 ds r := pcon_of_W mixed Try.func80 A80k A80c hl hw
/- estovers/device.find$1 -/
abbrev A81r1 : List AIns := [⟨(some 2), (.box (.tmp 0)), none⟩, ⟨(some 4), (.mv (.cst (.int .i64 0))), none⟩]
abbrev A81r2 : List AIns := [⟨(some 5), (.faddr 0 (.tmp 2)), none⟩, ⟨(some 6), (.load false 1 (.tmp 5)), none⟩, ⟨(some 7), (.mv (.tmp 1)), none⟩, ⟨(some 8), (.bin .sub (.tmp 6) (.tmp 7)), none⟩, ⟨(some 4), (.mv (.tmp 8)), none⟩]
def A81 : AFun := ⟨9, 2, [(.tmp 4)], (.seq (.reg A81r1 [1, 2]) (.seq (.reg A81r2 [4]) .ret))⟩
theorem A81c : compF Try.prog Try.f81 = some A81 := by kernel_rfl
theorem A81k : Callable Try.prog 81 := fun a w => Try.call81 a w
theorem A81p {ds : List D} {r : D} (hl : ds.length ≤ A81.nt) (hw : W Try.prog A81.code (Fin A81.results r) ⟨argEnv 0 ds, fun _ => none⟩) : PCon Try.prog 81 ds r := pcon_of_W mixed Try.func81 A81k A81c hl hw
/- slices.rotateRight[estovers/api.Cached] -/
/- slices.IndexFunc[[]estovers/durable.pending,estovers/durable.pending] -/
abbrev A84r1 : List AIns := [⟨(some 4), (.mv (.cst (.int .i64 0))), none⟩]
abbrev A84r2 : List AIns := [⟨(some 6), (.mv (.tmp 0)), none⟩, ⟨(some 7), (.len (.tmp 6)), none⟩, ⟨(some 8), (.mv (.cst (.int .i64 0))), none⟩]
abbrev A84r4 : List AIns := [⟨(some 9), (.bin .lss (.tmp 8) (.tmp 7)), none⟩]
abbrev A84r5 : List AIns := [⟨(some 10), (.mv (.tmp 8)), none⟩, ⟨(some 5), (.mv (.tmp 10)), none⟩]
abbrev A84r6 : List AIns := [⟨(some 11), (.mv (.tmp 1)), none⟩, ⟨(some 12), (.mv (.tmp 0)), none⟩, ⟨(some 13), (.mv (.tmp 5)), none⟩, ⟨(some 14), (.iaddr 3 (.tmp 12) (.tmp 13)), none⟩, ⟨(some 15), (.load true 3 (.tmp 14)), none⟩, ⟨(some 16), (.call (.tmp 11) [(.tmp 15)]), none⟩]
abbrev A84r7 : List AIns := [⟨(some 17), (.mv (.tmp 5)), none⟩, ⟨(some 4), (.mv (.tmp 17)), none⟩]
abbrev A84c8 : ACode := (.seq (.reg A84r5 [0, 1, 5, 7, 8]) (.seq (.reg A84r6 [0, 1, 5, 7, 8, 16]) (.cond (.tmp 16) [5] (.seq (.reg A84r7 [4]) .ret) [0, 1, 7, 8] .skip)))
abbrev A84r9 : List AIns := [⟨(some 18), (.bin .add (.tmp 8) (.cst (.int .i64 1))), none⟩, ⟨(some 8), (.mv (.tmp 18)), none⟩]
abbrev A84l3 : ACode := (.seq (.reg A84r4 [0, 1, 7, 8, 9]) (.seq (.cond (.tmp 9) [0, 1, 7, 8] .skip [] (.exit 0)) (.seq (.block 1 A84c8) (.reg A84r9 [0, 1, 7, 8]))))
abbrev A84r10 : List AIns := [⟨(some 4), (.mv (.cst (.int .i64 (-1)))), none⟩]
def A84 : AFun := ⟨19, 2, [(.tmp 4)], (.seq (.reg A84r1 [0, 1]) (.seq (.seq (.reg A84r2 [0, 1, 7, 8]) (.block 0 (.loop A84l3))) (.seq (.reg A84r10 [4]) .ret)))⟩
theorem A84c : compF Try.prog Try.f84 = some A84 := by kernel_rfl
theorem A84k : Callable Try.prog 84 := fun a w => Try.call84 a w
theorem A84p {ds : List D} {r : D} (hl : ds.length ≤ A84.nt) (hw : W Try.prog A84.code (Fin A84.results r) ⟨argEnv 0 ds, fun _ => none⟩) : PCon Try.prog 84 ds r := pcon_of_W mixed Try.func84 A84k A84c hl hw
/- (*estovers/durable.state).find$1 -/
abbrev A85r1 : List AIns := [⟨(some 2), (.box (.tmp 0)), none⟩, ⟨(some 3), (.mv (.cst (.bool false))), none⟩]
abbrev A85r2 : List AIns := [⟨(some 4), (.faddr 0 (.tmp 2)), none⟩, ⟨(some 5), (.load false 1 (.tmp 4)), none⟩, ⟨(some 6), (.load false 1 (.tmp 1)), none⟩, ⟨(some 7), (.bin .eql (.tmp 5) (.tmp 6)), none⟩, ⟨(some 3), (.mv (.tmp 7)), none⟩]
def A85 : AFun := ⟨8, 2, [(.tmp 3)], (.seq (.reg A85r1 [1, 2]) (.seq (.reg A85r2 [3]) .ret))⟩
theorem A85c : compF Try.prog Try.f85 = some A85 := by kernel_rfl
theorem A85k : Callable Try.prog 85 := fun a w => Try.call85 a w
theorem A85p {ds : List D} {r : D} (hl : ds.length ≤ A85.nt) (hw : W Try.prog A85.code (Fin A85.results r) ⟨argEnv 0 ds, fun _ => none⟩) : PCon Try.prog 85 ds r := pcon_of_W mixed Try.func85 A85k A85c hl hw
/- slices.rotateLeft[estovers/api.Cached] -/
/- slices.Reverse[[]estovers/api.Cached,estovers/api.Cached] -/
end Go.Proofs.Ythblalidmmbcoaa
end
section
/- Histories of a block device: what the reference says, what the machine's state says, and that they agree. No program. -/
set_option linter.unusedSimpArgs false
set_option linter.unusedVariables false
namespace Go.Proofs.Ythblalidmmbcoaa
open Go.AM Classical
def firstI {α : Type} (p : α → Bool) (l : List α) : Int := if l.findIdx p < l.length then (l.findIdx p : Nat) else -1
theorem firstI_at {α : Type} {p : α → Bool} {l : List α} {i : Nat} (hi : i < l.length) (h : p l[i] = true) (hb : ∀ j (hj : j < i), p (l[j]'(by omega)) = false) : firstI p l = i := by
  have : l.findIdx p = i := (List.findIdx_eq hi).2 ⟨h, hb⟩
  rw [firstI, this, if_pos hi]
theorem firstI_no {α : Type} {p : α → Bool} {l : List α} (hb : ∀ j (hj : j < l.length), p l[j] = false) : firstI p l = -1 := by
  have : l.findIdx p = l.length := List.findIdx_eq_length.2 fun x hx => by
    obtain ⟨i, hi, rfl⟩ := List.mem_iff_getElem.1 hx
    exact hb i hi
  rw [firstI, this, if_neg (by omega)]
theorem firstI_nn {α : Type} {p : α → Bool} {l : List α} : 0 ≤ firstI p l ↔ ∃ x ∈ l, p x = true := by
  rw [firstI, ← List.findIdx_lt_length]
  split <;> constructor <;> intro h <;> first | assumption | omega
theorem firstI_sp {α : Type} {p : α → Bool} {l : List α} (h : 0 ≤ firstI p l) : ∃ hk : (firstI p l).toNat < l.length, p (l[(firstI p l).toNat]'hk) = true ∧ ∀ j (hj : j < (firstI p l).toNat), p (l[j]'(by omega)) = false := by
  have hk : l.findIdx p < l.length := by
    unfold firstI at h
    split at h
    · assumption
    · omega
  have e : (firstI p l).toNat = l.findIdx p := by unfold firstI; rw [if_pos hk]; simp
  refine ⟨by omega, ?_, fun j hj => ?_⟩
  · simp only [e]; exact List.findIdx_getElem (w := hk)
  · rw [e] at hj; have := List.not_of_lt_findIdx hj; simpa using this
theorem firstI_app {α : Type} {p : α → Bool} {l : List α} {x : α} : firstI p (l ++ [x]) = if 0 ≤ firstI p l then firstI p l else if p x = true then (l.length : Int) else -1 := by
  by_cases h : 0 ≤ firstI p l
  · rw [if_pos h]
    obtain ⟨hk, h1, h2⟩ := firstI_sp h
    have := firstI_at (p := p) (l := l ++ [x]) (i := (firstI p l).toNat) (by simp; omega) (by rw [List.getElem_append_left hk]; exact h1) (fun j hj => by rw [List.getElem_append_left (by omega)]; exact h2 j hj)
    rw [this]; omega
  · rw [if_neg h]
    have hno : ∀ y ∈ l, p y = false := fun y hy => by
      cases hp : p y with
      | false => rfl
      | true => exact absurd (firstI_nn.2 ⟨y, hy, hp⟩) h
    by_cases hx : p x = true
    · rw [if_pos hx]
      exact firstI_at (by simp) (by simpa using hx) (fun j hj => by rw [List.getElem_append_left hj]; exact hno _ (List.getElem_mem _))
    · rw [if_neg hx]
      refine firstI_no fun j hj => ?_
      by_cases hjl : j < l.length
      · rw [List.getElem_append_left hjl]; exact hno _ (List.getElem_mem _)
      · have : j = l.length := by simp at hj; omega
        subst this
        simpa using hx
def fE (f : Nat → Int) : Nat → Int
  | 0 => 0
  | n + 1 => if fE f n = 0 then f n else fE f n
theorem fE_zero {f : Nat → Int} : ∀ {n}, fE f n = 0 ↔ ∀ i, i < n → f i = 0
  | 0 => by simp [fE]
  | n + 1 => by
    unfold fE
    constructor
    · intro h i hi
      split at h
      · rename_i h0
        rcases Nat.lt_succ_iff_lt_or_eq.1 hi with h1 | rfl
        · exact fE_zero.1 h0 i h1
        · exact h
      · contradiction
    · intro h
      rw [if_pos (fE_zero.2 fun i hi => h i (by omega))]
      exact h n (by omega)
theorem fE_stop {f : Nat → Int} {i : Nat} {e : Int} : ∀ {n}, i < n → (∀ j, j < i → f j = 0) → f i = e → e ≠ 0 → fE f n = e
  | 0, h, _, _, _ => by omega
  | n + 1, h, hj, hf, he => by
    unfold fE
    rcases Nat.lt_succ_iff_lt_or_eq.1 h with h1 | rfl
    · rw [fE_stop h1 hj hf he, if_neg (by omega)]
    · rw [if_pos (fE_zero.2 hj), hf]
theorem fE_congr {f g : Nat → Int} : ∀ {n}, (∀ i, i < n → (∀ j, j < i → f j = 0) → f i = g i) → fE f n = fE g n
  | 0, _ => rfl
  | n + 1, h => by
    have ih := fE_congr (f := f) (g := g) (n := n) fun i hi hj => h i (by omega) hj
    unfold fE
    rw [← ih]
    split
    · rename_i h0; exact h n (by omega) (fE_zero.1 h0)
    · rfl
abbrev Bs := List Int
structure Ev where
  kind : Int
  id : Int
  block : Int
  data : Bs
deriving DecidableEq
def isW (i : Int) (x : Ev) : Bool := decide (x.kind = 1 ∧ x.id = i)
def isD (i : Int) (x : Ev) : Bool := decide (x.kind = 2 ∧ x.id = i)
def subF (l : List Ev) (n : Nat) (i : Int) : Int := firstI (isW i) (l.take n)
def comF (l : List Ev) (n : Nat) (i : Int) : Int := firstI (isD i) (l.take n)
def evE (l : List Ev) (nb : Nat) (i : Nat) : Int :=
  if h : i < l.length then
    if l[i].kind = 1 then (if l[i].block < 0 ∨ nb ≤ l[i].block then 2 else if l[i].data.length ≠ 32 then 3 else if 0 ≤ subF l i l[i].id then 7 else 0)
    else if l[i].kind = 2 then (if l[i].block ≠ 0 ∨ l[i].data.length ≠ 0 then 1 else if subF l i l[i].id < 0 ∨ 0 ≤ comF l i l[i].id then 6 else 0)
    else if l[i].kind = 3 then (if l[i].id ≠ 0 ∨ l[i].block ≠ 0 ∨ l[i].data.length ≠ 0 then 1 else 0)
    else 1
  else 0
def okB (B : List Bs) : Prop := ∀ b ∈ B, b.length = 32
instance (B : List Bs) : Decidable (okB B) := inferInstanceAs (Decidable (∀ b ∈ B, _))
def chkR (B : List Bs) (l : List Ev) : Int := if okB B then fE (evE l B.length) l.length else 3
def lastF (l : List Ev) (b : Int) : Nat → Option Bs
  | 0 => none
  | n + 1 => match l[n]? with
    | some x => if x.kind = 2 then (match l[(subF l n x.id).toNat]? with | some w => if w.block = b then some w.data else lastF l b n | none => lastF l b n) else lastF l b n
    | none => lastF l b n
def fluF (l : List Ev) : Nat → Nat
  | 0 => 0
  | n + 1 => match l[n]? with
    | some x => if x.kind = 3 then n + 1 else fluF l n
    | none => fluF l n
def uptoF (B : List Bs) (l : List Ev) (n : Nat) (b : Nat) : Bs := (lastF l b n).getD (B.getD b [])
/-! ### The state -/
structure Wr where
  id : Int
  block : Int
  data : Bs
structure Sd where
  firm : List Bs
  cache : List (Option Bs)
  out : List Wr
def Ev.wr (x : Ev) : Wr := ⟨x.id, x.block, x.data⟩
def isO (i : Int) (w : Wr) : Bool := decide (w.id = i)
def doneS (s : Sd) (i : Int) : Sd :=
  match s.out[(firstI (isO i) s.out).toNat]? with
  | some w => { firm := s.firm, cache := s.cache.set w.block.toNat (some w.data), out := s.out.eraseIdx (firstI (isO i) s.out).toNat }
  | none => s
def fluS (s : Sd) : Sd := { firm := List.zipWith (fun f (c : Option Bs) => c.getD f) s.firm s.cache, cache := s.cache.map fun _ => none, out := s.out }
def appS (s : Sd) (x : Ev) : Sd :=
  if x.kind = 1 then { firm := s.firm, cache := s.cache, out := s.out ++ [x.wr] } else if x.kind = 2 then doneS s x.id else if x.kind = 3 then fluS s else s
def idsS (ids : List Int) (x : Ev) : List Int := if x.kind = 1 then x.id :: ids else ids
def wroS (s : Sd) (ids : List Int) (x : Ev) : Int :=
  if x.kind = 1 then (if x.block < 0 ∨ s.firm.length ≤ x.block then 2 else if x.data.length ≠ 32 then 3 else if x.id ∈ ids then 7 else 0)
  else if x.kind = 2 then (if x.block ≠ 0 ∨ x.data.length ≠ 0 then 1 else if firstI (isO x.id) s.out < 0 then 6 else 0)
  else if x.kind = 3 then (if x.id ≠ 0 ∨ x.block ≠ 0 ∨ x.data.length ≠ 0 then 1 else 0)
  else 1
def stS (B : List Bs) (l : List Ev) : Nat → Sd
  | 0 => { firm := B, cache := List.replicate B.length none, out := [] }
  | n + 1 => match l[n]? with | some x => appS (stS B l n) x | none => stS B l n
def idS (l : List Ev) : Nat → List Int
  | 0 => []
  | n + 1 => match l[n]? with | some x => idsS (idS l n) x | none => idS l n
def errS (B : List Bs) (l : List Ev) (i : Nat) : Int := match l[i]? with | some x => wroS (stS B l i) (idS l i) x | none => 0
def chkS (B : List Bs) (l : List Ev) : Int := if okB B then fE (errS B l) l.length else 3
theorem stS_s {B : List Bs} {l : List Ev} {n : Nat} (h : n < l.length) : stS B l (n + 1) = appS (stS B l n) l[n] := by rw [stS, List.getElem?_eq_getElem h]
theorem idS_s {l : List Ev} {n : Nat} (h : n < l.length) : idS l (n + 1) = idsS (idS l n) l[n] := by rw [idS, List.getElem?_eq_getElem h]
theorem errS_s {B : List Bs} {l : List Ev} {n : Nat} (h : n < l.length) : errS B l n = wroS (stS B l n) (idS l n) l[n] := by rw [errS, List.getElem?_eq_getElem h]
theorem subF_s {l : List Ev} {n : Nat} (h : n < l.length) (i : Int) : subF l (n + 1) i = if 0 ≤ subF l n i then subF l n i else if isW i l[n] = true then (n : Int) else -1 := by
  unfold subF
  rw [List.take_succ_eq_append_getElem h, firstI_app, List.length_take, Nat.min_eq_left (by omega)]
theorem comF_s {l : List Ev} {n : Nat} (h : n < l.length) (i : Int) : comF l (n + 1) i = if 0 ≤ comF l n i then comF l n i else if isD i l[n] = true then (n : Int) else -1 := by
  unfold comF
  rw [List.take_succ_eq_append_getElem h, firstI_app, List.length_take, Nat.min_eq_left (by omega)]
theorem subF_ge (l : List Ev) (n : Nat) (i : Int) : -1 ≤ subF l n i := by unfold subF firstI; split <;> omega
theorem comF_ge (l : List Ev) (n : Nat) (i : Int) : -1 ≤ comF l n i := by unfold comF firstI; split <;> omega
theorem subF_sp {l : List Ev} {n : Nat} {i : Int} (h : 0 ≤ subF l n i) : ∃ hk : (subF l n i).toNat < l.length, (subF l n i).toNat < n ∧ l[(subF l n i).toNat].kind = 1 ∧ l[(subF l n i).toNat].id = i := by
  obtain ⟨hk, h1, _⟩ := firstI_sp h
  rw [List.length_take] at hk
  refine ⟨by show (firstI (isW i) (l.take n)).toNat < _; omega, by show (firstI (isW i) (l.take n)).toNat < _; omega, ?_⟩
  rw [List.getElem_take] at h1
  simp only [isW, decide_eq_true_eq] at h1
  exact h1
end Go.Proofs.Ythblalidmmbcoaa
end
section
/- Histories: the machine's state is what the reference says of each block. No program. -/
set_option linter.unusedSimpArgs false
set_option linter.unusedVariables false
namespace Go.Proofs.Ythblalidmmbcoaa
open Go.AM Classical
structure InvS (B : List Bs) (l : List Ev) (n : Nat) : Prop where
  firmL : (stS B l n).firm.length = B.length
  cacheL : (stS B l n).cache.length = B.length
  ids : ∀ i, i ∈ idS l n ↔ 0 ≤ subF l n i
  out : (stS B l n).out = ((l.take n).filter fun x => decide (x.kind = 1 ∧ comF l n x.id < 0)).map Ev.wr
  com : ∀ i, 0 ≤ comF l n i → 0 ≤ subF l n i
  uniq : ∀ j k (hj : j < l.length) (hk : k < l.length), j < n → k < n → l[j].kind = 1 → l[k].kind = 1 → l[j].id = l[k].id → j = k
  blk : ∀ j (hj : j < l.length), j < n → l[j].kind = 1 → 0 ≤ l[j].block ∧ l[j].block < B.length ∧ l[j].data.length = 32
  lat : ∀ b : Nat, b < B.length → ((stS B l n).cache.getD b none).getD ((stS B l n).firm.getD b []) = uptoF B l n b
  firm : ∀ b : Nat, b < B.length → (stS B l n).firm.getD b [] = uptoF B l (fluF l n) b
theorem lastF_s {l : List Ev} {b : Int} {n : Nat} (h : n < l.length) : lastF l b (n + 1) = if l[n].kind = 2 then (match l[(subF l n l[n].id).toNat]? with | some w => if w.block = b then some w.data else lastF l b n | none => lastF l b n) else lastF l b n := by
  rw [lastF, List.getElem?_eq_getElem h]
  all_goals rfl
theorem fluF_s {l : List Ev} {n : Nat} (h : n < l.length) : fluF l (n + 1) = if l[n].kind = 3 then n + 1 else fluF l n := by
  rw [fluF, List.getElem?_eq_getElem h]
theorem errS_R {B : List Bs} {l : List Ev} {n : Nat} (I : InvS B l n) : errS B l n = evE l B.length n := by
  by_cases h : n < l.length
  · rw [errS_s h, evE, dif_pos h, wroS, I.firmL]
    have h1 : l[n].id ∈ idS l n ↔ 0 ≤ subF l n l[n].id := I.ids _
    have h2 : firstI (isO l[n].id) (stS B l n).out < 0 ↔ (subF l n l[n].id < 0 ∨ 0 ≤ comF l n l[n].id) := by
      rw [← Int.not_le, firstI_nn, I.out]
      constructor
      · intro hn
        by_cases hs : subF l n l[n].id < 0
        · exact .inl hs
        · right
          obtain ⟨hk, hkn, hw, hi⟩ := subF_sp (by omega : 0 ≤ subF l n l[n].id)
          refine Classical.byContradiction fun hc => hn ?_
          refine ⟨l[(subF l n l[n].id).toNat].wr, List.mem_map.2 ⟨_, List.mem_filter.2 ⟨?_, ?_⟩, rfl⟩, ?_⟩
          · rw [List.mem_take_iff_getElem]
            exact ⟨_, by omega, rfl⟩
          · rw [decide_eq_true_eq]; exact ⟨hw, by rw [hi]; omega⟩
          · simp [isO, Ev.wr, hi]
      · rintro h3 ⟨w, hw, hi⟩
        obtain ⟨x, hx, rfl⟩ := List.mem_map.1 hw
        obtain ⟨hx1, hx2⟩ := List.mem_filter.1 hx
        have hi' : x.id = l[n].id := of_decide_eq_true hi
        rw [decide_eq_true_eq, hi'] at hx2
        have : 0 ≤ subF l n l[n].id := firstI_nn.2 ⟨x, hx1, by simp [isW, hx2.1, hi']⟩
        omega
    simp only [h1, h2]
  · rw [errS, List.getElem?_eq_none (by omega), evE, dif_neg h]
theorem find_out {l : List Wr} {i : Int} (hu : ∀ j k (hj : j < l.length) (hk : k < l.length), l[j].id = l[k].id → j = k) (h : 0 ≤ firstI (isO i) l) : l.eraseIdx (firstI (isO i) l).toNat = l.filter fun w => decide (w.id ≠ i) := by
  obtain ⟨hk, h1, -⟩ := firstI_sp h
  have hid : l[(firstI (isO i) l).toNat].id = i := by simpa [isO] using h1
  suffices key : ∀ (k : Nat) (hk : k < l.length), l[k].id = i → l.eraseIdx k = l.filter fun w => decide (w.id ≠ i) from key _ hk hid
  clear h h1 hid hk
  intro k hk hid
  induction l generalizing k with
  | nil => simp at hk
  | cons a r ih =>
    have hr : ∀ j k (hj : j < r.length) (hk : k < r.length), r[j].id = r[k].id → j = k := fun j k hj hk he => by
      have := hu (j + 1) (k + 1) (by simp; omega) (by simp; omega) (by simpa using he)
      omega
    cases k with
    | zero =>
      simp at hid
      rw [List.eraseIdx_cons_zero, List.filter_cons, if_neg (by simp [hid])]
      rw [List.filter_eq_self.2]
      intro w hw
      obtain ⟨j, hj, rfl⟩ := List.mem_iff_getElem.1 hw
      simp only [ne_eq, decide_not, Bool.not_eq_eq_eq_not, Bool.not_true, decide_eq_false_iff_not]
      intro he
      have := hu 0 (j + 1) (by simp) (by simp; omega) (by simp [hid, he])
      omega
    | succ k =>
      have hk' : k < r.length := by simpa using hk
      have hid' : r[k].id = i := by simpa using hid
      rw [List.eraseIdx_cons_succ, List.filter_cons, if_pos, ih hr k hk' hid']
      simp only [ne_eq, decide_not, Bool.not_eq_eq_eq_not, Bool.not_true, decide_eq_false_iff_not]
      intro he
      have := hu 0 (k + 1) (by simp) (by simpa using hk') (by simp [hid', he])
      omega
theorem done_at {B : List Bs} {l : List Ev} {n : Nat} (I : InvS B l n) (h : n < l.length) (hk : l[n].kind = 2) (he : errS B l n = 0) :
    ∃ hs : (subF l n l[n].id).toNat < l.length, 0 ≤ subF l n l[n].id ∧ comF l n l[n].id < 0 ∧ l[(subF l n l[n].id).toNat].kind = 1 ∧ l[(subF l n l[n].id).toNat].id = l[n].id ∧
    ∃ hf : (firstI (isO l[n].id) (stS B l n).out).toNat < (stS B l n).out.length, 0 ≤ firstI (isO l[n].id) (stS B l n).out ∧ (stS B l n).out[(firstI (isO l[n].id) (stS B l n).out).toNat] = l[(subF l n l[n].id).toNat].wr := by
  have he2 := he
  rw [errS_R I, evE, dif_pos h, if_neg (by omega), if_pos hk] at he2
  have h3 : ¬ (subF l n l[n].id < 0 ∨ 0 ≤ comF l n l[n].id) := by
    intro h4
    split at he2
    · cases he2
    · omega
  obtain ⟨hs, hsn, h5, h6⟩ := subF_sp (by omega : 0 ≤ subF l n l[n].id)
  refine ⟨hs, by omega, by omega, h5, h6, ?_⟩
  have hf0 : 0 ≤ firstI (isO l[n].id) (stS B l n).out := by
    rw [errS_s h, wroS, if_neg (by omega), if_pos hk] at he
    split at he
    · cases he
    · split at he
      · cases he
      · omega
  obtain ⟨hf, h7, -⟩ := firstI_sp hf0
  refine ⟨hf, hf0, ?_⟩
  suffices key : ∀ (k : Nat) (hf : k < (stS B l n).out.length), isO l[n].id (stS B l n).out[k] = true → (stS B l n).out[k] = l[(subF l n l[n].id).toNat].wr from key _ hf h7
  clear h7 hf hf0
  intro k hf h7
  have hk3 := List.getElem_mem hf
  generalize (stS B l n).out[k] = o at h7 hk3 ⊢
  rw [I.out] at hk3
  obtain ⟨x, hx, hxw⟩ := List.mem_map.1 hk3
  obtain ⟨hx1, hx2⟩ := List.mem_filter.1 hx
  rw [List.mem_take_iff_getElem] at hx1
  obtain ⟨j, hj, rfl⟩ := hx1
  have hid : l[j].id = l[n].id := by
    have : (l[j]'(by omega)).wr.id = l[n].id := by rw [hxw]; exact of_decide_eq_true h7
    exact this
  rw [decide_eq_true_eq] at hx2
  have := I.uniq j (subF l n l[n].id).toNat (by omega) hs (by omega) hsn hx2.1 h5 (hid.trans h6.symm)
  rw [← hxw]
  simp only [this]
theorem lastF_some {l : List Ev} {b : Int} {c : Bs} : ∀ {n}, lastF l b n = some c → ∃ (j : Nat) (hj : j < l.length), l[j].data = c ∧ l[j].block = b
  | 0, h => by cases h
  | n + 1, h => by
    unfold lastF at h
    split at h
    · rename_i x hx
      split at h
      · split at h
        · rename_i w hw
          split at h
          · rename_i hb
            injection h with h
            obtain ⟨hlt, rfl⟩ := List.getElem?_eq_some_iff.1 hw
            exact ⟨_, hlt, h, hb⟩
          · exact lastF_some h
        · exact lastF_some h
      · exact lastF_some h
    · exact lastF_some h
theorem filter_snoc {α : Type} (p : α → Bool) (l : List α) (x : α) : (l ++ [x]).filter p = l.filter p ++ if p x = true then [x] else [] := by
  rw [List.filter_append]; congr 1
  by_cases h : p x = true <;> simp [h]
theorem inv_0 (B : List Bs) (l : List Ev) : InvS B l 0 where
  firmL := rfl
  cacheL := by simp [stS]
  ids i := by simp [idS, subF, firstI]
  out := by simp [stS]
  com i h := by simp [comF, firstI] at h
  uniq j k _ _ h := by omega
  blk j _ h := by omega
  lat b hb := by
    have : (List.replicate B.length (none : Option Bs)).getD b none = none := by rw [List.getD_eq_getElem?_getD, List.getElem?_replicate]; split <;> rfl
    simp only [stS, uptoF, lastF, this]
  firm b hb := by simp [stS, uptoF, lastF, fluF]
theorem set_getD {α : Type} {l : List α} {i j : Nat} {a d : α} (hi : i < l.length) : (l.set i a).getD j d = if i = j then a else l.getD j d := by
  rw [List.getD_eq_getElem?_getD, List.getElem?_set]
  by_cases h : i = j
  · subst h; rw [if_pos rfl, if_pos hi, if_pos rfl]; rfl
  · rw [if_neg h, if_neg h, List.getD_eq_getElem?_getD]
theorem zip_getD {F : List Bs} {C : List (Option Bs)} (hl : F.length = C.length) {b : Nat} (hb : b < F.length) : (List.zipWith (fun f (c : Option Bs) => c.getD f) F C).getD b [] = (C.getD b none).getD (F.getD b []) := by
  rw [List.getD_eq_getElem?_getD, List.getElem?_zipWith, List.getElem?_eq_getElem hb, List.getElem?_eq_getElem (by omega : b < C.length)]
  simp [List.getElem?_eq_getElem hb, List.getElem?_eq_getElem (by omega : b < C.length)]
theorem inv_s {B : List Bs} {l : List Ev} {n : Nat} (I : InvS B l n) (h : n < l.length) (he : errS B l n = 0) : InvS B l (n + 1) := by
  have he2 := he
  rw [errS_R I, evE, dif_pos h] at he2
  by_cases h1 : l[n].kind = 1
  · -- a write is submitted
    rw [if_pos h1] at he2
    have hb : 0 ≤ l[n].block ∧ l[n].block < B.length := by
      split at he2
      · cases he2
      · omega
    rw [if_neg (by omega)] at he2
    have hd : l[n].data.length = 32 := by
      split at he2
      · cases he2
      · omega
    rw [if_neg (by omega)] at he2
    have hs : subF l n l[n].id < 0 := by
      split at he2
      · cases he2
      · omega
    have hcn : ∀ i, comF l (n + 1) i = comF l n i := fun i => by
      rw [comF_s h, if_neg (c := isD i l[n] = true) (by simp [isD, h1])]
      have := comF_ge l n i
      split <;> omega
    have hsn : ∀ i, 0 ≤ subF l (n + 1) i ↔ (0 ≤ subF l n i ∨ l[n].id = i) := fun i => by
      rw [subF_s h]
      simp only [isW, h1, true_and, decide_eq_true_eq]
      split
      · simp_all
      · split <;> simp_all <;> omega
    have hc : comF l n l[n].id < 0 := Classical.byContradiction fun hc => by have := I.com l[n].id (by omega); omega
    have hst : stS B l (n + 1) = { firm := (stS B l n).firm, cache := (stS B l n).cache, out := (stS B l n).out ++ [l[n].wr] } := by rw [stS_s h, appS, if_pos h1]
    refine ⟨by rw [hst]; exact I.firmL, by rw [hst]; exact I.cacheL, ?_, ?_, ?_, ?_, ?_, ?_, ?_⟩
    · intro i
      rw [idS_s h, idsS, if_pos h1, hsn, List.mem_cons, I.ids]
      constructor <;> rintro (h | h) <;> first | exact .inl h | exact .inr h.symm | exact .inr h | exact .inl h.symm
    · rw [hst]
      show (stS B l n).out ++ [l[n].wr] = _
      rw [I.out, List.take_succ_eq_append_getElem h, filter_snoc, if_pos (by rw [decide_eq_true_eq]; exact ⟨h1, by rw [hcn]; exact hc⟩), List.map_append]
      simp only [hcn]
      rfl
    · intro i hi; rw [hcn] at hi; exact (hsn i).2 (.inl (I.com i hi))
    · intro j k hj hk hjn hkn hwj hwk hjk
      have key : ∀ j (hj : j < l.length), j < n → l[j].kind = 1 → l[j].id = l[n].id → False := fun j hj hjn hw hi => by
        have : 0 ≤ subF l n l[n].id := firstI_nn.2 ⟨l[j], by rw [List.mem_take_iff_getElem]; exact ⟨j, by omega, rfl⟩, by simp [isW, hw, hi]⟩
        omega
      rcases Nat.lt_succ_iff_lt_or_eq.1 hjn with h2 | rfl <;> rcases Nat.lt_succ_iff_lt_or_eq.1 hkn with h3 | rfl
      · exact I.uniq j k hj hk h2 h3 hwj hwk hjk
      · exact (key j hj h2 hwj hjk).elim
      · exact (key k hk h3 hwk hjk.symm).elim
      · rfl
    · intro j hj hjn hw
      rcases Nat.lt_succ_iff_lt_or_eq.1 hjn with h2 | rfl
      · exact I.blk j hj h2 hw
      · exact ⟨hb.1, hb.2, hd⟩
    · intro b hbl
      rw [hst]
      show _ = uptoF B l (n + 1) b
      rw [uptoF, lastF_s h, if_neg (by omega)]
      exact I.lat b hbl
    · intro b hbl
      rw [hst, fluF_s h, if_neg (by omega)]
      exact I.firm b hbl
  · by_cases h2 : l[n].kind = 2
    · -- a write completes
      obtain ⟨hs, hs0, hc0, hw1, hw2, hf, hf0, hfw⟩ := done_at I h h2 he
      have hsn : ∀ i, subF l (n + 1) i = subF l n i := fun i => by
        rw [subF_s h, if_neg (c := isW i l[n] = true) (by simp [isW, h1])]
        have := subF_ge l n i
        split <;> omega
      have hcn : ∀ i, comF l (n + 1) i < 0 ↔ (comF l n i < 0 ∧ i ≠ l[n].id) := fun i => by
        rw [comF_s h]
        simp only [isD, h2, true_and, decide_eq_true_eq]
        split
        · constructor <;> intro h <;> omega
        · split
          · rename_i h3; subst h3
            constructor
            · intro h4; omega
            · intro h4; exact absurd rfl h4.2
          · rename_i h3
            constructor
            · intro _; exact ⟨by omega, fun h4 => h3 h4.symm⟩
            · intro _; omega
      have hsl := (subF_sp hs0).2.1
      have hblk := I.blk _ hs hsl hw1
      have huO : ∀ j k (hj : j < (stS B l n).out.length) (hk : k < (stS B l n).out.length), (stS B l n).out[j].id = (stS B l n).out[k].id → j = k := by
        have hnd : ((stS B l n).out.map Wr.id).Nodup := by
          rw [I.out, List.map_map]
          have hall : ∀ m, m ≤ n → (((l.take m).filter fun x => decide (x.kind = 1 ∧ comF l n x.id < 0)).map (Wr.id ∘ Ev.wr)).Nodup := by
            intro m
            induction m with
            | zero => intro _; simp
            | succ m ih =>
              intro hm
              rw [List.take_succ_eq_append_getElem (by omega), filter_snoc, List.map_append]
              have ih := ih (by omega)
              split
              · rename_i hp
                rw [decide_eq_true_eq] at hp
                rw [List.nodup_append]
                refine ⟨ih, by simp, ?_⟩
                intro a ha b hb hab
                subst hab
                simp at hb
                obtain ⟨x, hx, hxa⟩ := List.mem_map.1 ha
                obtain ⟨hx1, hx2⟩ := List.mem_filter.1 hx
                rw [List.mem_take_iff_getElem] at hx1
                obtain ⟨j, hj, rfl⟩ := hx1
                rw [decide_eq_true_eq] at hx2
                have := I.uniq j m (by omega) (by omega) (by omega) (by omega) hx2.1 hp.1 (hxa.trans hb)
                omega
              · simpa using ih
          exact hall n (Nat.le_refl _)
        intro j k hj hk hjk
        have hp := List.pairwise_iff_getElem.1 hnd
        rcases Nat.lt_trichotomy j k with hlt | heq | hlt
        · exact absurd hjk (by have := hp j k (by simpa using hj) (by simpa using hk) hlt; rwa [List.getElem_map, List.getElem_map] at this)
        · exact heq
        · exact absurd hjk.symm (by have := hp k j (by simpa using hk) (by simpa using hj) hlt; rwa [List.getElem_map, List.getElem_map] at this)
      have hst : stS B l (n + 1) = { firm := (stS B l n).firm, cache := (stS B l n).cache.set l[(subF l n l[n].id).toNat].block.toNat (some l[(subF l n l[n].id).toNat].data), out := (stS B l n).out.eraseIdx (firstI (isO l[n].id) (stS B l n).out).toNat } := by
        rw [stS_s h, appS, if_neg h1, if_pos h2, doneS, List.getElem?_eq_getElem hf, hfw]
        rfl
      refine ⟨by rw [hst]; exact I.firmL, by rw [hst]; simpa using I.cacheL, ?_, ?_, ?_, ?_, ?_, ?_, ?_⟩
      · intro i; rw [idS_s h, idsS, if_neg h1, hsn]; exact I.ids i
      · rw [hst]
        show (stS B l n).out.eraseIdx _ = _
        rw [find_out huO hf0, I.out, List.take_succ_eq_append_getElem h, filter_snoc, if_neg (by simp [h1]), List.append_nil, List.filter_map, List.filter_filter]
        congr 1
        apply List.filter_congr
        intro x hx
        simp only [Function.comp_apply, hcn, Ev.wr]
        by_cases a1 : x.kind = 1 <;> by_cases a2 : comF l n x.id < 0 <;> by_cases a3 : x.id = l[n].id <;> simp [a1, a2, a3]
      · intro i hi
        rw [hsn]
        by_cases hi2 : 0 ≤ comF l n i
        · exact I.com i hi2
        · have : ¬ comF l (n + 1) i < 0 := by omega
          rw [hcn] at this
          have h3 : i = l[n].id := Classical.byContradiction fun h3 => this ⟨by omega, h3⟩
          subst h3; exact hs0
      · intro j k hj hk hjn hkn hwj hwk hjk
        rcases Nat.lt_succ_iff_lt_or_eq.1 hjn with h3 | rfl
        · rcases Nat.lt_succ_iff_lt_or_eq.1 hkn with h4 | rfl
          · exact I.uniq j k hj hk h3 h4 hwj hwk hjk
          · omega
        · omega
      · intro j hj hjn hw
        rcases Nat.lt_succ_iff_lt_or_eq.1 hjn with h3 | rfl
        · exact I.blk j hj h3 hw
        · omega
      · intro b hb
        rw [hst]
        show (((stS B l n).cache.set _ _).getD b none).getD ((stS B l n).firm.getD b []) = uptoF B l (n + 1) b
        rw [set_getD (by rw [I.cacheL]; omega), uptoF, lastF_s h, if_pos h2, List.getElem?_eq_getElem hs]
        simp only
        by_cases hbb : l[(subF l n l[n].id).toNat].block = (b : Int)
        · rw [if_pos hbb, if_pos (by omega)]; rfl
        · rw [if_neg hbb, if_neg (by omega)]; exact I.lat b hb
      · intro b hb
        rw [hst, fluF_s h, if_neg (by omega)]
        exact I.firm b hb
    · -- a flush
      have h3 : l[n].kind = 3 := by
        rw [if_neg h1, if_neg h2] at he2
        split at he2
        · assumption
        · cases he2
      have hsn : ∀ i, subF l (n + 1) i = subF l n i := fun i => by
        rw [subF_s h, if_neg (c := isW i l[n] = true) (by simp [isW, h1])]
        have := subF_ge l n i
        split <;> omega
      have hcn : ∀ i, comF l (n + 1) i = comF l n i := fun i => by
        rw [comF_s h, if_neg (c := isD i l[n] = true) (by simp [isD, h2])]
        have := comF_ge l n i
        split <;> omega
      have hst : stS B l (n + 1) = fluS (stS B l n) := by rw [stS_s h, appS, if_neg h1, if_neg h2, if_pos h3]
      have hla : ∀ b : Nat, lastF l b (n + 1) = lastF l b n := fun b => by rw [lastF_s h, if_neg h2]
      have hF := I.firmL
      have hC := I.cacheL
      have hfirm : ∀ b : Nat, b < B.length → (stS B l (n + 1)).firm.getD b [] = uptoF B l n b := fun b hb => by
        rw [hst]
        show (List.zipWith (fun f (c : Option Bs) => c.getD f) (stS B l n).firm (stS B l n).cache).getD b [] = _
        rw [zip_getD (by omega) (by omega)]
        exact I.lat b hb
      refine ⟨?_, ?_, ?_, ?_, ?_, ?_, ?_, ?_, ?_⟩
      · rw [hst]; show (List.zipWith _ _ _).length = _; rw [List.length_zipWith]; omega
      · rw [hst]; show (List.map _ _).length = _; rw [List.length_map]; omega
      · intro i; rw [idS_s h, idsS, if_neg h1, hsn]; exact I.ids i
      · rw [hst]
        show (stS B l n).out = _
        rw [I.out, List.take_succ_eq_append_getElem h, filter_snoc, if_neg (by simp [h1]), List.append_nil]
        simp only [hcn]
      · intro i hi; rw [hcn] at hi; rw [hsn]; exact I.com i hi
      · intro j k hj hk hjn hkn hwj hwk hjk
        rcases Nat.lt_succ_iff_lt_or_eq.1 hjn with h4 | rfl
        · rcases Nat.lt_succ_iff_lt_or_eq.1 hkn with h5 | rfl
          · exact I.uniq j k hj hk h4 h5 hwj hwk hjk
          · omega
        · omega
      · intro j hj hjn hw
        rcases Nat.lt_succ_iff_lt_or_eq.1 hjn with h4 | rfl
        · exact I.blk j hj h4 hw
        · omega
      · intro b hb
        have e1 : (stS B l (n + 1)).cache.getD b none = none := by
          rw [hst]
          show ((stS B l n).cache.map fun _ => none).getD b none = none
          rw [List.getD_eq_getElem?_getD, List.getElem?_map]
          cases (stS B l n).cache[b]? <;> rfl
        rw [e1]
        show (stS B l (n + 1)).firm.getD b [] = _
        rw [hfirm b hb, uptoF, uptoF, hla]
      · intro b hb
        rw [hfirm b hb, fluF_s h, if_pos h3, uptoF, uptoF, hla]
theorem inv_n {B : List Bs} {l : List Ev} : ∀ {n}, n ≤ l.length → (∀ j, j < n → errS B l j = 0) → InvS B l n
  | 0, _, _ => inv_0 B l
  | n + 1, h, he => inv_s (inv_n (by omega) fun j hj => he j (by omega)) (by omega) (he n (by omega))
theorem chk_eq (B : List Bs) (l : List Ev) : chkS B l = chkR B l := by
  unfold chkS chkR
  split
  · exact fE_congr fun i hi hj => errS_R (inv_n (by omega) hj)
  · rfl
theorem chk_inv {B : List Bs} {l : List Ev} (h : chkR B l = 0) : okB B ∧ InvS B l l.length := by
  rw [← chk_eq] at h
  unfold chkS at h
  split at h
  · rename_i hb; exact ⟨hb, inv_n (Nat.le_refl _) (fE_zero.1 h)⟩
  · cases h
end Go.Proofs.Ythblalidmmbcoaa
end
section
/- min -/
/- Contents, events; the functions on bytes. -/
set_option linter.unusedSimpArgs false
set_option linter.unusedVariables false
namespace Go.Proofs.Ythblalidmmbcoaa
open Go.AM Classical
set_option maxRecDepth 100000
set_option maxHeartbeats 4000000
def byB (c : Bs) : Prop := ∀ a ∈ c, 0 ≤ a ∧ a ≤ 255
abbrev bD (c : Bs) : D := .vs 1 (c.map (.int .u8)) c.length
def Ev.cells (x : Ev) : List D := [.int .i64 x.kind, .int .i64 x.id, .int .i64 x.block, bD x.data]
theorem Ev.cells_len (x : Ev) : x.cells.length = 4 := rfl
abbrev bsD (B : List Bs) : D := .vs 1 (B.map bD) B.length
abbrev evD (l : List Ev) : D := .vs 4 (l.flatMap Ev.cells) l.length
theorem evs_len (l : List Ev) : (l.flatMap Ev.cells).length = l.length * 4 := fm_len Ev.cells_len l
theorem evr {l : List Ev} {i : Nat} (h : i < l.length) : ((l.flatMap Ev.cells).drop (i * 4)).take 4 = [.int .i64 l[i].kind, .int .i64 l[i].id, .int .i64 l[i].block, bD l[i].data] := fm_row Ev.cells_len h
theorem bsg {B : List Bs} {i : Nat} (h : i < B.length) : (B.map bD)[i]? = some (bD B[i]) := by rw [List.getElem?_map, List.getElem?_eq_getElem h]; rfl
theorem bs_len (B : List Bs) : (B.map bD).length = B.length := List.length_map _
theorem by_len (c : Bs) : (c.map (D.int .u8)).length = c.length := List.length_map _
theorem bD_scal (c : Bs) : (c.map (D.int .u8)).all scal = true := by
  rw [List.all_eq_true]; intro d hd; obtain ⟨n, _, rfl⟩ := List.mem_map.1 hd; rfl
theorem con_end {rs : List ARes} {e : Env} {h : Heap} {d : D} {Q : D → Heap → Prop} (hd : resD rs (AM.get e) h = some d) (hq : Q d h) : True ∧ ∃ d, resD rs (AM.get (St.mk e h).env) (St.mk e h).heap = some d ∧ Q d (St.mk e h).heap := ⟨trivial, d, hd, hq⟩
theorem upd_sub {h : Heap} {k : Nat} {x : List D} (hk : h k = none) (j : Nat) (c : List D) (hj : h j = some c) : upd h k x j = some c := by
  rw [upd_ne (fun e => by rw [e, hk] at hj; cases hj)]; exact hj
theorem Rd_ag {h : Heap} {ds ds' : List D} (hr : All2 (Rd h) ds ds') : Rd h (.agg ds) (.agg ds') := by
  intro s v H hv
  obtain ⟨cs, rfl, hall⟩ := hv.inv_agg
  refine .agg cs ds' (hall.1.trans hr.1) ?_ (fun i v d' hv hd => ?_)
  · intro u hu
    obtain ⟨i, hi⟩ := List.mem_iff_getElem?.1 hu
    have hlt : i < ds.length := by
      rcases Nat.lt_or_ge i ds.length with h' | h'
      · exact h'
      · rw [← hall.1] at h'; simp [List.getElem?_eq_none h'] at hi
    exact (hall.2 i u _ hi (List.getElem?_eq_getElem hlt)).2
  · have hlt : i < ds.length := by
      rcases Nat.lt_or_ge i ds.length with h' | h'
      · exact h'
      · rw [List.getElem?_eq_none (by rw [← hr.1]; exact h')] at hd; cases hd
    have hdi := List.getElem?_eq_getElem hlt
    exact hr.2 i _ d' hdi hd s v H (hall.2 i v _ hv hdi).1
theorem Rd_w3 {h : Heap} {a b : Int} {k k' : IntKind} {sz n : Nat} {c : List D} : Rd h (.agg [.int k a, .int k' b, .vs sz c n]) (.agg [.int k a, .int k' b, .vs sz c n]) := Rd_ag (All2.cons Rd_int (All2.cons Rd_int (All2.cons Rd_vs All2.nil)))
theorem Rd_e4 {h : Heap} {a b e : Int} {k k' k2 : IntKind} {sz n : Nat} {c : List D} : Rd h (.agg [.int k a, .int k' b, .int k2 e, .vs sz c n]) (.agg [.int k a, .int k' b, .int k2 e, .vs sz c n]) := Rd_ag (All2.cons Rd_int (All2.cons Rd_int (All2.cons Rd_int (All2.cons Rd_vs All2.nil))))
theorem equal_c (a b : Bs) (ha : byB a) (hb : byB b) : PCon Try.prog 53 [bD a, bD b] (.bool (decide (a = b))) := by
  refine A53p (by simp [A53]) ?_
  simp only [A53, argEnv]
  have h1 := fun h => strD_vs0 (h := h) a
  have h2 := fun h => strD_vs0 (h := h) b
  have h3 := strOf_eq ha hb
  rw [← h3]
  clear h3
  generalize strOf a = sa at *
  generalize strOf b = sb at *
  replace h1 := h1 (fun _ => none)
  replace h2 := h2 (fun _ => none)
  repeat' (first | (with_reducible first | refine W_seq ?_ | refine then_n ?_ | refine W_ret ?_) | ((with_reducible refine s_reg ?_); intro K hK) | ((with_reducible refine k_nil ?_); (with_reducible apply s_nil hK); (· exact nmX); clear hK; clear K) | ((with_reducible refine k_mv ?_); (refine s_mv rfl ?_)) | ((with_reducible refine k_eql ?_); ((refine s_strEq rfl rfl ?_))) | ((with_reducible refine k_strB ?_); ((with_reducible apply s_strB); (· rfl); (· (assumption)))))
  all_goals first | exact Fin_flat trivial rfl rfl | (refine Fin_tup trivial rfl ?_ (Nat.le_of_ble_eq_true rfl); (repeat (first | exact All2.nil | (apply All2.cons; (· first | exact exc_n | exact exc_e | exact exc_v rfl rfl | exact exc_o upd_self rfl rfl)))); done) | (refine Fin_own trivial rfl upd_self ?_ (Nat.le_of_ble_eq_true rfl); (repeat (first | exact All2.nil | (apply All2.cons; (· first | exact exc_n | exact exc_e | exact exc_v rfl rfl | exact exc_o upd_self rfl rfl)))); done) | exact Fin_nil trivial rfl | exact Fin_sl trivial rfl upd_self rfl rfl
theorem bclone_c (c : Bs) (hc : c.length ≤ 1000000) : PCon Try.prog 63 [bD c] (.ow 1 (c.map (.int .u8)) c.length) := by
  have hal := by_len c
  refine A63p (by simp [A63]) ?_
  simp only [A63, argEnv]
  rcases Nat.eq_zero_or_pos c.length with h0 | h0
  · have hp : c = [] := List.length_eq_zero_iff.1 h0
    subst hp
    simp only [List.map_nil, List.length_nil]
    repeat' (first | (with_reducible first | refine W_seq ?_ | refine then_n ?_ | refine W_skip ?_ | refine W_ret ?_ | refine then_r ?_) | ((with_reducible refine s_reg ?_); intro K hK) | ((with_reducible refine k_nil ?_); (with_reducible apply s_nil hK); (· exact nmX); clear hK; clear K) | ((with_reducible refine k_cond ?_); (first | ((with_reducible apply s_condT); (· rfl); (· exact nmX)) | ((with_reducible apply s_condF); (· rfl); (· exact nmX)))) | ((with_reducible refine k_mv ?_); (refine s_mv rfl ?_)) | ((with_reducible refine k_eqN ?_); (((with_reducible apply s_eqN0); (· rfl); intro b; cases b))) | ((with_reducible refine k_buildS (dst := some 5) ?_); ((with_reducible apply s_buildS); (· rfl); (· (exact ⟨rfl, by decide⟩)); (· ((simp only [fillB, rep, splice, List.reduceReplicate, List.flatten_cons, List.flatten_nil, List.cons_append, List.nil_append, List.append_nil, List.length_cons, List.length_nil, Nat.reduceAdd, Nat.reduceMul, Nat.reduceLeDiff, Nat.reduceEqDiff, eq_self, Nat.le_refl, Nat.zero_add, and_self, and_true, true_and, if_true, List.take_zero, List.take_succ_cons, List.drop_zero, List.drop_succ_cons, List.drop_nil, List.take_nil]; rfl))); intro k5 hk5; (try simp only [upd_none] at hk5))) | ((with_reducible refine k_append (dst := some 7) ?_); ((with_reducible apply s_app); (· rfl); (· rfl); (· first | exact SlOwn.sl upd_self rfl); (· rfl); (· first | (exact srcD_vs (by assumption))); (· exact ⟨by rfl, by decide⟩); (· first | (rw [room_n]; omega)); intro da7 ha7 hso7 hoth7)))
    all_goals first | (first | exact Fin_flat trivial rfl rfl | (refine Fin_tup trivial rfl ?_ (Nat.le_of_ble_eq_true rfl); (repeat (first | exact All2.nil | (apply All2.cons; (· first | exact exc_n | exact exc_e | exact exc_v rfl rfl | exact exc_o upd_self rfl rfl)))); done) | (refine Fin_own trivial rfl upd_self ?_ (Nat.le_of_ble_eq_true rfl); (repeat (first | exact All2.nil | (apply All2.cons; (· first | exact exc_n | exact exc_e | exact exc_v rfl rfl | exact exc_o upd_self rfl rfl)))); done) | exact Fin_nil trivial rfl | exact Fin_sl trivial rfl upd_self rfl rfl) | exact Fin_so trivial rfl (by assumption) rfl
  · repeat' (first | (with_reducible first | refine W_seq ?_ | refine then_n ?_ | refine W_skip ?_ | refine W_ret ?_) | ((with_reducible refine s_reg ?_); intro K hK) | ((with_reducible refine k_nil ?_); (with_reducible apply s_nil hK); (· exact nmX); clear hK; clear K) | ((with_reducible refine k_cond ?_); (((with_reducible apply s_condF); (· rfl); (· exact nmX)))) | ((with_reducible refine k_mv ?_); (refine s_mv rfl ?_)) | ((with_reducible refine k_eqN ?_); (((with_reducible apply s_eqN); (· rfl); (· (exact isNil_vs (by omega))); (· rfl)))) | ((with_reducible refine k_buildS (dst := some 5) ?_); ((with_reducible apply s_buildS); (· rfl); (· (exact ⟨rfl, by decide⟩)); (· ((simp only [fillB, rep, splice, List.reduceReplicate, List.flatten_cons, List.flatten_nil, List.cons_append, List.nil_append, List.append_nil, List.length_cons, List.length_nil, Nat.reduceAdd, Nat.reduceMul, Nat.reduceLeDiff, Nat.reduceEqDiff, eq_self, Nat.le_refl, Nat.zero_add, and_self, and_true, true_and, if_true, List.take_zero, List.take_succ_cons, List.drop_zero, List.drop_succ_cons, List.drop_nil, List.take_nil]; rfl))); intro k5 hk5; (try simp only [upd_none] at hk5))) | ((with_reducible refine k_append (dst := some 7) ?_); ((with_reducible apply s_app); (· rfl); (· rfl); (· first | exact SlOwn.sl upd_self rfl); (· rfl); (· first | (exact srcD_vs (by simp))); (· exact ⟨by simp, by decide⟩); (· first | (rw [room_n]; omega)); intro da7 ha7 hso7 hoth7)))
    simp only [List.nil_append, Nat.zero_add] at hso7
    exact Fin_so trivial rfl hso7 (bD_scal c)
def InN (h : Heap) (cs : List D) (B : List Bs) : Prop := All2 (fun c b => ∃ k, c = .sl k 1 0 b.length ∧ h k = some (b.map (.int .u8))) cs B
theorem InN.step {h h2 h3 : Heap} {d : D} {cs : List D} {B : List Bs} {n : Nat} (H : InN h cs B) (ho : SlOwn h d 1 cs n) (h12 : ∀ k c, h k = some c → h2 k = some c) (h23 : ∀ j c, h2 j = some c → (∀ sz off n, d ≠ .sl j sz off n) → h3 j = some c) : InN h3 cs B := by
  refine ⟨H.1, fun i c b hc hb => ?_⟩
  obtain ⟨k, h1, hk⟩ := H.2 i c b hc hb
  refine ⟨k, h1, h23 k _ (h12 k _ hk) fun sz off m he => ?_⟩
  obtain ⟨_, ⟨_, h4⟩ | ⟨k2, h4, h5⟩⟩ := ho
  · rcases h4 with h4 | h4 <;> rw [h4] at he <;> cases he
  · rw [h4] at he
    injection he with he
    subst he
    rw [hk] at h5
    injection h5 with h5
    have := List.mem_of_getElem? hc
    rw [← h5] at this
    obtain ⟨z, _, hz⟩ := List.mem_map.1 this
    rw [h1] at hz; cases hz
theorem InN.snoc {h : Heap} {cs : List D} {B : List Bs} (H : InN h cs B) {k : Nat} {b : Bs} (hk : h k = some (b.map (.int .u8))) : InN h (cs ++ [.sl k 1 0 b.length]) (B ++ [b]) := H.append (All2.cons ⟨k, rfl, hk⟩ All2.nil)
theorem InN.rn {h : Heap} {cs : List D} {B : List Bs} (H : InN h cs B) : All2 (Rn h) cs (B.map bD) := by
  refine ⟨by rw [H.1, List.length_map], fun i c d hc hd => ?_⟩
  rw [List.getElem?_map] at hd
  cases hb : B[i]? with
  | none => rw [hb] at hd; cases hd
  | some b =>
    rw [hb] at hd
    injection hd with hd; subst hd
    obtain ⟨k, rfl, hk⟩ := H.2 i c b hc hb
    exact Rn_sl hk (by rw [by_len, Nat.mul_one]) (All2_scal (bD_scal b))
theorem take_s {α : Type} {l : List α} {i : Nat} (h : i < l.length) : l.take (i + 1) = l.take i ++ [l[i]] := List.take_succ_eq_append_getElem h
theorem copies_c (B : List Bs) (hB : B.length ≤ 1000000) (hb : ∀ b ∈ B, b.length ≤ 1000000) : PCon Try.prog 43 [bsD B] (.vs 1 (B.map bD) B.length) := by
  refine A43p (by simp [A43]) ?_
  simp only [A43, argEnv]
  have hal := bs_len B
  repeat' (first | (with_reducible first | refine W_seq ?_ | refine then_n ?_ | refine W_block ?_) | ((with_reducible refine s_reg ?_); intro K hK) | ((with_reducible refine k_nil ?_); (with_reducible apply s_nil hK); (· exact nmX); clear hK; clear K) | ((with_reducible refine k_mv ?_); (refine s_mv rfl ?_)) | ((with_reducible refine k_len ?_); ((refine s_len rfl rfl ?_))))
  refine W_for B.length (fun i st => ∃ h' d cs, st = ⟨[(3, d), (6, bsD B), (7, .int .i64 B.length), (8, .int .i64 i)], h'⟩ ∧ SlOwn h' d 1 cs i ∧ InN h' cs (B.take i)) ⟨_, _, [], rfl, SlOwn.nil, All2.nil⟩ ?_ ?_
  · rintro i e' h' hi ⟨h1, d, cs, he, ho, hr⟩
    cases he
    have hg := bsg hi
    have c1 := bclone_c B[i] (hb _ (List.getElem_mem hi))
    have ht := take_s hi
    generalize B[i] = b at *
    repeat' (first | (with_reducible first | refine W_seq ?_ | refine then_n ?_ | refine W_block ?_ | refine blk_n ?_ | refine W_skip ?_) | ((with_reducible refine s_reg ?_); intro K hK) | ((with_reducible refine k_nil ?_); (with_reducible apply s_nil hK); (· exact nmX); clear hK; clear K) | ((with_reducible refine k_cond ?_); (((with_reducible apply s_condT); (· rfl); (· exact nmX)))) | ((with_reducible refine k_mv ?_); (refine s_mv rfl ?_)) | ((with_reducible refine k_lss ?_); (refine s_lss rfl rfl ?_)) | ((with_reducible refine k_iaddr ?_); (((with_reducible apply s_iaddrV); (· rfl); (· rfl); (· (omega))))) | ((with_reducible refine k_load ?_); (((with_reducible apply s_loadV); (· rfl)))) | ((with_reducible refine k_add ?_); ((with_reducible apply s_add); (· rfl); (· rfl))) | ((with_reducible refine k_buildS (dst := some 15) ?_); ((with_reducible apply s_buildS); (· rfl); (· (exact ⟨rfl, by decide⟩)); (· ((simp only [fillB, rep, splice, List.reduceReplicate, List.flatten_cons, List.flatten_nil, List.cons_append, List.nil_append, List.append_nil, List.length_cons, List.length_nil, Nat.reduceAdd, Nat.reduceMul, Nat.reduceLeDiff, Nat.reduceEqDiff, eq_self, Nat.le_refl, Nat.zero_add, and_self, and_true, true_and, if_true, List.take_zero, List.take_succ_cons, List.drop_zero, List.drop_succ_cons, List.drop_nil, List.take_nil]; rfl))); intro k15 hk15; (try simp only [upd_none] at hk15))) | ((with_reducible refine k_append (dst := some 16) ?_); ((with_reducible apply s_app); (· rfl); (· rfl); (· first | ((repeat' (first | assumption | (with_reducible apply SlOwn.upd) | (simp only [upd_none]; assumption))); done)); (· rfl); (· first | exact srcD_sl upd_self rfl); (· exact ⟨by rfl, by decide⟩); (· first | (rw [room_n]; omega)); intro da16 ha16 hso16 hoth16)) | ((with_reducible refine k_callF ?_); (((with_reducible apply s_call1); (· rfl)))) | ((with_reducible refine k_con ?_); (((with_reducible apply con_of_pcon (c1)); (· (repeat (first | exact All2.nil | (apply All2.cons; (· first | exact rdX))))); intro kC hkC; (try simp only [upd_none] at hkC); simp only [thaw, thawC, List.map, thawH, owOf, owL]))) | ((with_reducible refine k_br ?_); ((refine Br_t (by omega) ?_))) | ((first | (with_reducible apply q_eqI) | (with_reducible apply q_eqN)); ((simp (disch := omega) only [w64, wu8, wu16, wu32, wu64, tm_nn, td_nn, fd_nn, Int.reduceAdd, Int.reduceSub, Int.reduceMul, Int.reduceDiv, Int.reduceMod, Int.reduceNeg, Int.reduceToNat, Int.toNat_natCast, Int.toNat_zero, Int.zero_add, Int.add_zero, Int.one_mul, Int.reducePow, Nat.mul_one, Nat.zero_add, Nat.add_zero, Nat.zero_mul, Nat.reduceAdd, Nat.reduceMul, Nat.reduceSub, Nat.min_eq_left, IntKind.bits, Nat.sub_zero, hg]; try rfl; done))) | (((with_reducible apply q_eqO)); ((simp (disch := omega) only [upd_self, upd_ne, upd_upd, rep, splice, List.take_succ_cons, List.take_zero, List.drop_succ_cons, List.drop_zero, List.cons_append, List.nil_append, List.append_nil, List.length_cons, List.length_nil, List.reduceReplicate, List.flatten_cons, List.flatten_nil, Nat.reduceAdd, Nat.reduceMul, Nat.reduceSub, Nat.zero_add, Nat.add_zero, List.getElem?_cons_zero, List.getElem?_cons_succ, hg]; try rfl; done))))
    all_goals first | (exfalso; omega) | skip
    have hkn : ∀ k c, h' k = some c → upd (upd h' kC (b.map (.int .u8))) k15 [.sl kC 1 0 b.length] k = some c := fun k c hk => by
      rw [upd_ne (fun e => by rw [e, hk15.2] at hk; cases hk), upd_ne (fun e => by rw [e, hkC] at hk; cases hk)]; exact hk
    refine ⟨_, _, _, rfl, hso16, ?_⟩
    rw [ht]
    refine (hr.step ho hkn hoth16).snoc (hoth16 kC _ ?_ ?_)
    · rw [upd_ne (Ne.symm hk15.1)]; exact upd_self
    · intro sz off n he
      obtain ⟨_, ⟨_, h4⟩ | ⟨k2, h4, h5⟩⟩ := ho
      · rcases h4 with h4 | h4 <;> rw [h4] at he <;> cases he
      · rw [h4] at he; injection he with he; subst he; rw [hkC] at h5; cases h5
  · rintro e' h' ⟨h1, d, cs, he, ho, hr⟩
    cases he
    repeat' (first | (with_reducible first | refine W_seq ?_ | refine then_n ?_ | refine blk_e ?_ | refine W_ret ?_ | refine W_exit ?_ | refine then_e ?_) | ((with_reducible refine s_reg ?_); intro K hK) | ((with_reducible refine k_nil ?_); (with_reducible apply s_nil hK); (· exact nmX); clear hK; clear K) | ((with_reducible refine k_cond ?_); (((with_reducible apply s_condF); (· rfl); (· exact nmX)))) | ((with_reducible refine k_mv ?_); (refine s_mv rfl ?_)) | ((with_reducible refine k_lss ?_); (refine s_lss rfl rfl ?_)) | ((with_reducible refine k_br ?_); ((refine Br_f (by omega) ?_))))
    all_goals first | (exfalso; omega) | skip
    rw [List.take_length] at hr
    exact Fin_rn trivial rfl (Rn_so ho hr.rn) rfl
end Go.Proofs.Ythblalidmmbcoaa
end
