/- The compiled functions of this seat, in named pieces, each with the proof that it is what the compiler gives of the model's code. -/
import Derived.Test.YtnngcjipfdejcaaAmS
import Derived.Test.YtnngcjipfdejcaaRows
set_option linter.unusedSimpArgs false
set_option linter.unusedVariables false
namespace Go.Proofs.Ytnngcjipfdejcaa
open Go.AM
set_option maxRecDepth 100000
theorem mixed : Try.prog.follows .mixedOrders = true := by kernel_rfl
/- estovers/estoverslaw30.ThrottleHalf -/
/- estovers/estoverslaw30.ThrottleShares -/
/- estovers/estoverslaw30.ThrottleOldest -/
/- estovers/estoverslaw30.ThrottleLimits -/
/- estovers/estoverslaw30.ThrottleSum -/
abbrev A7r1 : List AIns := [⟨(some 4), (.mv (.cst (.bool false))), none⟩]
abbrev A7r2 : List AIns := [⟨(some 11), (.call (.fnc 9) []), none⟩, ⟨(some 12), (.un .not (.tmp 11)), none⟩, ⟨(some 13), (.mv (.tmp 12)), none⟩, ⟨(some 14), (.mv (.tmp 0)), (some (13, false))⟩, ⟨(some 15), (.call (.fnc 18) [(.tmp 14)]), (some (13, false))⟩, ⟨(some 16), (.bin .neq (.tmp 15) (.cst (.int .i64 0))), (some (13, false))⟩, ⟨(some 17), (.pick (.tmp 13) (.cst (.bool true)) (.tmp 16)), none⟩]
abbrev A7r3 : List AIns := [⟨(some 18), (.call (.fnc 9) []), none⟩, ⟨(some 4), (.mv (.tmp 18)), none⟩]
abbrev A7r4 : List AIns := [⟨(some 19), (.mv (.tmp 0)), none⟩, ⟨(some 20), (.len (.tmp 19)), none⟩, ⟨(some 21), (.mkslice 1 8 [(.int .i64 0)] (.tmp 20) (.tmp 20)), none⟩, ⟨(some 5), (.mv (.tmp 21)), none⟩]
abbrev A7r5 : List AIns := [⟨(some 22), (.mv (.tmp 0)), none⟩, ⟨(some 23), (.len (.tmp 22)), none⟩, ⟨(some 24), (.mkslice 1 8 [(.int .i64 0)] (.tmp 23) (.tmp 23)), none⟩, ⟨(some 6), (.mv (.tmp 24)), none⟩]
abbrev A7r6 : List AIns := [⟨(some 25), (.mv (.tmp 0)), none⟩, ⟨(some 26), (.len (.tmp 25)), none⟩, ⟨(some 27), (.mv (.cst (.int .i64 0))), none⟩]
abbrev A7r8 : List AIns := [⟨(some 28), (.bin .lss (.tmp 27) (.tmp 26)), none⟩]
abbrev A7r9 : List AIns := [⟨(some 29), (.mv (.tmp 27)), none⟩, ⟨(some 7), (.mv (.tmp 29)), none⟩]
abbrev A7r10 : List AIns := [⟨(some 31), (.mv (.tmp 0)), none⟩, ⟨(some 32), (.mv (.tmp 1)), none⟩, ⟨(some 33), (.conv .i64 (.tmp 32)), none⟩, ⟨(some 34), (.mv (.tmp 7)), none⟩, ⟨(some 35), (.call (.fnc 12) [(.tmp 31), (.tmp 33), (.tmp 34)]), none⟩, ⟨(some 30), (.mv (.tmp 35)), none⟩, ⟨(some 36), (.extract 0 (.tmp 30)), none⟩, ⟨(some 37), (.extract 1 (.tmp 30)), none⟩, ⟨(some 8), (.mv (.tmp 36)), none⟩, ⟨(some 9), (.mv (.tmp 37)), none⟩]
abbrev A7r11 : List AIns := [⟨(some 38), (.mv (.tmp 9)), none⟩, ⟨(some 39), (.bin .neq (.tmp 38) (.cst (.int .i64 0))), none⟩, ⟨(some 40), (.mv (.tmp 39)), none⟩, ⟨(some 41), (.mv (.tmp 8)), (some (40, false))⟩, ⟨(some 42), (.bin .lss (.tmp 41) (.cst (.int .i64 0))), (some (40, false))⟩, ⟨(some 43), (.pick (.tmp 40) (.cst (.bool true)) (.tmp 42)), none⟩, ⟨(some 44), (.mv (.tmp 43)), none⟩, ⟨(some 45), (.mv (.tmp 8)), (some (44, false))⟩, ⟨(some 46), (.mv (.tmp 1)), (some (44, false))⟩, ⟨(some 47), (.conv .i64 (.tmp 46)), (some (44, false))⟩, ⟨(some 48), (.bin .gtr (.tmp 45) (.tmp 47)), (some (44, false))⟩, ⟨(some 49), (.pick (.tmp 44) (.cst (.bool true)) (.tmp 48)), none⟩]
abbrev A7r12 : List AIns := [⟨(some 4), (.mv (.cst (.bool false))), none⟩]
abbrev A7r13 : List AIns := [⟨(some 50), (.mv (.tmp 6)), none⟩, ⟨(some 51), (.mv (.tmp 7)), none⟩, ⟨(some 52), (.mv (.tmp 8)), none⟩, ⟨(some 53), (.iaddr 1 (.tmp 50) (.tmp 51)), none⟩, ⟨none, (.store 1 (.tmp 53) (.tmp 52)), none⟩]
abbrev A7r14 : List AIns := [⟨(some 54), (.mv (.tmp 7)), none⟩, ⟨(some 55), (.bin .gtr (.tmp 54) (.cst (.int .i64 0))), none⟩]
abbrev A7r15 : List AIns := [⟨(some 56), (.mv (.tmp 5)), none⟩, ⟨(some 57), (.mv (.tmp 0)), none⟩, ⟨(some 58), (.mv (.tmp 7)), none⟩, ⟨(some 59), (.iaddr 5 (.tmp 57) (.tmp 58)), none⟩, ⟨(some 60), (.faddr 0 (.tmp 59)), none⟩, ⟨(some 61), (.load false 1 (.tmp 60)), none⟩, ⟨(some 62), (.iaddr 1 (.tmp 56) (.tmp 61)), none⟩, ⟨(some 63), (.load false 1 (.tmp 62)), none⟩, ⟨(some 64), (.mv (.tmp 8)), none⟩, ⟨(some 65), (.bin .add (.tmp 63) (.tmp 64)), none⟩, ⟨(some 66), (.iaddr 1 (.tmp 56) (.tmp 61)), none⟩, ⟨none, (.store 1 (.tmp 66) (.tmp 65)), none⟩]
abbrev A7c16 : ACode := (.seq (.reg A7r9 [0, 1, 5, 6, 7, 26, 27]) (.seq (.reg A7r10 [0, 1, 5, 6, 7, 8, 9, 26, 27]) (.seq (.seq (.reg A7r11 [0, 1, 5, 6, 7, 8, 26, 27, 49]) (.cond (.tmp 49) [] (.seq (.reg A7r12 [4]) .ret) [0, 1, 5, 6, 7, 8, 26, 27] .skip)) (.seq (.reg A7r13 [0, 1, 5, 6, 7, 8, 26, 27]) (.seq (.reg A7r14 [0, 1, 5, 6, 7, 8, 26, 27, 55]) (.cond (.tmp 55) [0, 1, 5, 6, 7, 8, 26, 27] (.reg A7r15 [0, 1, 5, 6, 26, 27]) [0, 1, 5, 6, 26, 27] .skip))))))
abbrev A7r17 : List AIns := [⟨(some 67), (.bin .add (.tmp 27) (.cst (.int .i64 1))), none⟩, ⟨(some 27), (.mv (.tmp 67)), none⟩]
abbrev A7l7 : ACode := (.seq (.reg A7r8 [0, 1, 5, 6, 26, 27, 28]) (.seq (.cond (.tmp 28) [0, 1, 5, 6, 26, 27] .skip [0, 1, 5, 6] (.exit 0)) (.seq (.block 1 A7c16) (.reg A7r17 [0, 1, 5, 6, 26, 27]))))
abbrev A7r18 : List AIns := [⟨(some 68), (.mv (.tmp 0)), none⟩, ⟨(some 69), (.iaddr 5 (.tmp 68) (.cst (.int .i64 0))), none⟩, ⟨(some 70), (.faddr 1 (.tmp 69)), none⟩, ⟨(some 71), (.load false 1 (.tmp 70)), none⟩, ⟨(some 72), (.bin .eql (.tmp 71) (.cst (.int .i64 0))), none⟩]
abbrev A7r19 : List AIns := [⟨(some 73), (.mv (.tmp 6)), none⟩, ⟨(some 74), (.iaddr 1 (.tmp 73) (.cst (.int .i64 0))), none⟩, ⟨(some 75), (.load false 1 (.tmp 74)), none⟩, ⟨(some 76), (.mv (.tmp 1)), none⟩, ⟨(some 77), (.conv .i64 (.tmp 76)), none⟩, ⟨(some 78), (.bin .eql (.tmp 75) (.tmp 77)), none⟩, ⟨(some 4), (.mv (.tmp 78)), none⟩]
abbrev A7r20 : List AIns := [⟨(some 79), (.mv (.tmp 5)), none⟩, ⟨(some 80), (.len (.tmp 79)), none⟩, ⟨(some 81), (.mv (.cst (.int .i64 0))), none⟩]
abbrev A7r22 : List AIns := [⟨(some 82), (.bin .lss (.tmp 81) (.tmp 80)), none⟩]
abbrev A7r23 : List AIns := [⟨(some 83), (.mv (.tmp 81)), none⟩, ⟨(some 10), (.mv (.tmp 83)), none⟩]
abbrev A7d24 : List AIns := [⟨(some 84), (.mv (.tmp 5)), none⟩, ⟨(some 85), (.mv (.tmp 10)), none⟩, ⟨(some 86), (.iaddr 1 (.tmp 84) (.tmp 85)), none⟩, ⟨(some 87), (.load false 1 (.tmp 86)), none⟩, ⟨(some 88), (.mv (.tmp 6)), none⟩, ⟨(some 89), (.mv (.tmp 10)), none⟩, ⟨(some 90), (.iaddr 1 (.tmp 88) (.tmp 89)), none⟩, ⟨(some 91), (.load false 1 (.tmp 90)), none⟩, ⟨(some 92), (.bin .gtr (.tmp 87) (.tmp 91)), none⟩]
abbrev A7r25 : List AIns := [⟨(some 4), (.mv (.cst (.bool false))), none⟩]
abbrev A7c26 : ACode := (.seq (.reg A7r23 [1, 5, 6, 10, 80, 81]) (.seq (.dreg A7d24 [[], [], [0, 1], [0, 1, 2], [], [], [4, 5], [4, 5, 6], [0, 1, 2, 3, 4, 5, 6, 7]] [1, 5, 6, 80, 81, 92]) (.cond (.tmp 92) [] (.seq (.reg A7r25 [4]) .ret) [1, 5, 6, 80, 81] .skip)))
abbrev A7r27 : List AIns := [⟨(some 93), (.bin .add (.tmp 81) (.cst (.int .i64 1))), none⟩, ⟨(some 81), (.mv (.tmp 93)), none⟩]
abbrev A7l21 : ACode := (.seq (.reg A7r22 [1, 5, 6, 80, 81, 82]) (.seq (.cond (.tmp 82) [1, 5, 6, 80, 81] .skip [1, 6] (.exit 2)) (.seq (.block 3 A7c26) (.reg A7r27 [1, 5, 6, 80, 81]))))
abbrev A7r28 : List AIns := [⟨(some 94), (.mv (.tmp 6)), none⟩, ⟨(some 95), (.iaddr 1 (.tmp 94) (.cst (.int .i64 0))), none⟩, ⟨(some 96), (.load false 1 (.tmp 95)), none⟩, ⟨(some 97), (.mv (.tmp 1)), none⟩, ⟨(some 98), (.conv .i64 (.tmp 97)), none⟩, ⟨(some 99), (.bin .eql (.tmp 96) (.tmp 98)), none⟩, ⟨(some 4), (.mv (.tmp 99)), none⟩]
def A7 : AFun := ⟨100, 2, [(.tmp 4)], (.seq (.reg A7r1 [0, 1]) (.seq (.seq (.reg A7r2 [0, 1, 17]) (.cond (.tmp 17) [] (.seq (.reg A7r3 [4]) .ret) [0, 1] .skip)) (.seq (.reg A7r4 [0, 1, 5]) (.seq (.reg A7r5 [0, 1, 5, 6]) (.seq (.seq (.reg A7r6 [0, 1, 5, 6, 26, 27]) (.block 0 (.loop A7l7))) (.seq (.seq (.reg A7r18 [1, 5, 6, 72]) (.cond (.tmp 72) [1, 6] (.seq (.reg A7r19 [4]) .ret) [1, 5, 6] .skip)) (.seq (.seq (.reg A7r20 [1, 5, 6, 80, 81]) (.block 2 (.loop A7l21))) (.seq (.reg A7r28 [4]) .ret))))))))⟩
theorem A7c : compF Try.prog Try.f7 = some A7 := by kernel_rfl
theorem A7k : Callable Try.prog 7 := fun a w => Try.call7 a w
theorem A7p {ds : List D} {r : D} (hl : ds.length ≤ A7.nt) (hw : W Try.prog A7.code (Fin A7.results r) ⟨argEnv 0 ds, fun _ => none⟩) : PCon Try.prog 7 ds r := pcon_of_W mixed Try.func7 A7k A7c hl hw
/- estovers/estoverslaw30.ThrottleOrder -/
/- estovers/estoverslaw30.awake -/
abbrev A9r1 : List AIns := [⟨(some 0), (.mv (.cst (.bool false))), none⟩]
abbrev A9r2 : List AIns := [⟨(some 4), (.build [(.int .u8 0), (.int .u8 0), (.bool false), (.int .i64 0)] [(0, (1, (.cst (.int .u8 4)))), (2, (1, (.cst (.bool true)))), (3, (1, (.cst (.int .i64 5))))]), none⟩, ⟨(some 5), (.build [(.int .u8 0), (.int .u8 0), (.bool false), (.int .i64 0)] [(0, (1, (.cst (.int .u8 4)))), (1, (1, (.cst (.int .u8 4))))]), none⟩, ⟨(some 6), (.build [(.int .u8 0), (.int .u8 0), (.bool false), (.int .i64 0)] [(0, (1, (.cst (.int .u8 3)))), (2, (1, (.cst (.bool true))))]), none⟩, ⟨(some 7), (.build [(.int .u8 0), (.int .u8 0), (.bool false), (.int .i64 0)] [(0, (1, (.cst (.int .u8 4)))), (2, (1, (.cst (.bool true)))), (3, (1, (.cst (.int .i64 3))))]), none⟩, ⟨(some 8), (.buildS 4 [(.int .u8 0), (.int .u8 0), (.bool false), (.int .i64 0)] 4 [(0, (4, (.tmp 4))), (4, (4, (.tmp 5))), (8, (4, (.tmp 6))), (12, (4, (.tmp 7)))]), none⟩, ⟨(some 9), (.call (.fnc 14) [(.tmp 8)]), none⟩, ⟨(some 1), (.mv (.tmp 9)), none⟩]
abbrev A9r3 : List AIns := [⟨(some 11), (.build [(.int .i64 0), (.int .i64 0), (.int .i64 0), (.int .i64 0), (.int .i64 0)] [(0, (1, (.cst (.int .i64 (-1))))), (1, (1, (.cst (.int .i64 10)))), (4, (1, (.cst (.int .i64 20))))]), none⟩, ⟨(some 12), (.build [(.int .i64 0), (.int .i64 0), (.int .i64 0), (.int .i64 0), (.int .i64 0)] [(0, (1, (.cst (.int .i64 0)))), (1, (1, (.cst (.int .i64 6)))), (4, (1, (.cst (.int .i64 20))))]), none⟩, ⟨(some 13), (.buildS 5 [(.int .i64 0), (.int .i64 0), (.int .i64 0), (.int .i64 0), (.int .i64 0)] 2 [(0, (5, (.tmp 11))), (5, (5, (.tmp 12)))]), none⟩, ⟨(some 14), (.call (.fnc 12) [(.tmp 13), (.cst (.int .i64 7)), (.cst (.int .i64 1))]), none⟩, ⟨(some 10), (.mv (.tmp 14)), none⟩, ⟨(some 15), (.extract 0 (.tmp 10)), none⟩, ⟨(some 16), (.extract 1 (.tmp 10)), none⟩, ⟨(some 2), (.mv (.tmp 15)), none⟩, ⟨(some 3), (.mv (.tmp 16)), none⟩]
abbrev A9r4 : List AIns := [⟨(some 17), (.mv (.tmp 1)), none⟩, ⟨(some 18), (.call (.fnc 17) [(.tmp 17)]), none⟩, ⟨(some 19), (.bin .eql (.tmp 18) (.cst (.int .i64 3))), none⟩, ⟨(some 20), (.mv (.tmp 19)), none⟩, ⟨(some 21), (.mv (.tmp 1)), (some (20, true))⟩, ⟨(some 22), (.iaddr 16 (.tmp 21) (.cst (.int .i64 1))), (some (20, true))⟩, ⟨(some 23), (.load true 16 (.tmp 22)), (some (20, true))⟩, ⟨(some 24), (.call (.fnc 19) [(.tmp 23)]), (some (20, true))⟩, ⟨(some 25), (.pick (.tmp 20) (.tmp 24) (.cst (.bool false))), none⟩, ⟨(some 26), (.mv (.tmp 25)), none⟩, ⟨(some 27), (.mv (.tmp 1)), (some (26, true))⟩, ⟨(some 28), (.call (.fnc 15) [(.tmp 27)]), (some (26, true))⟩, ⟨(some 29), (.bin .eql (.tmp 28) (.cst (.int .i64 3))), (some (26, true))⟩, ⟨(some 30), (.pick (.tmp 26) (.tmp 29) (.cst (.bool false))), none⟩, ⟨(some 31), (.mv (.tmp 30)), none⟩, ⟨(some 32), (.mv (.tmp 1)), (some (31, true))⟩, ⟨(some 33), (.call (.fnc 16) [(.tmp 32), (.cst (.int .i64 3))]), (some (31, true))⟩, ⟨(some 34), (.un .not (.tmp 33)), (some (31, true))⟩, ⟨(some 35), (.pick (.tmp 31) (.tmp 34) (.cst (.bool false))), none⟩, ⟨(some 36), (.mv (.tmp 35)), none⟩, ⟨(some 37), (.mv (.tmp 1)), (some (36, true))⟩, ⟨(some 38), (.call (.fnc 16) [(.tmp 37), (.cst (.int .i64 4))]), (some (36, true))⟩, ⟨(some 39), (.pick (.tmp 36) (.tmp 38) (.cst (.bool false))), none⟩, ⟨(some 40), (.mv (.tmp 39)), none⟩, ⟨(some 41), (.call (.fnc 10) [(.cst (.int .i64 3)), (.cst (.int .i64 4))]), (some (40, true))⟩, ⟨(some 42), (.pick (.tmp 40) (.tmp 41) (.cst (.bool false))), none⟩, ⟨(some 43), (.mv (.tmp 42)), none⟩, ⟨(some 44), (.call (.fnc 10) [(.cst (.int .i64 2)), (.cst (.int .i64 4))]), (some (43, true))⟩, ⟨(some 45), (.un .not (.tmp 44)), (some (43, true))⟩, ⟨(some 46), (.pick (.tmp 43) (.tmp 45) (.cst (.bool false))), none⟩, ⟨(some 47), (.mv (.tmp 46)), none⟩, ⟨(some 48), (.mv (.tmp 3)), (some (47, true))⟩, ⟨(some 49), (.bin .eql (.tmp 48) (.cst (.int .i64 0))), (some (47, true))⟩, ⟨(some 50), (.pick (.tmp 47) (.tmp 49) (.cst (.bool false))), none⟩, ⟨(some 51), (.mv (.tmp 50)), none⟩, ⟨(some 52), (.mv (.tmp 2)), (some (51, true))⟩, ⟨(some 53), (.bin .eql (.tmp 52) (.cst (.int .i64 4))), (some (51, true))⟩, ⟨(some 54), (.pick (.tmp 51) (.tmp 53) (.cst (.bool false))), none⟩, ⟨(some 0), (.mv (.tmp 54)), none⟩]
def A9 : AFun := ⟨55, 0, [(.tmp 0)], (.seq (.reg A9r1 []) (.seq (.reg A9r2 [1]) (.seq (.reg A9r3 [1, 2, 3]) (.seq (.reg A9r4 [0]) .ret))))⟩
theorem A9c : compF Try.prog Try.f9 = some A9 := by kernel_rfl
theorem A9k : Callable Try.prog 9 := fun a w => Try.call9 a w
theorem A9p {ds : List D} {r : D} (hl : ds.length ≤ A9.nt) (hw : W Try.prog A9.code (Fin A9.results r) ⟨argEnv 0 ds, fun _ => none⟩) : PCon Try.prog 9 ds r := pcon_of_W mixed Try.func9 A9k A9c hl hw
/- estovers/throttle.Background -/
abbrev A10r1 : List AIns := [⟨(some 4), (.mv (.cst (.bool false))), none⟩]
abbrev A10r2 : List AIns := [⟨(some 5), (.mv (.tmp 0)), none⟩, ⟨(some 6), (.bin .geq (.tmp 5) (.cst (.int .i64 0))), none⟩, ⟨(some 7), (.mv (.tmp 6)), none⟩, ⟨(some 8), (.mv (.tmp 1)), (some (7, true))⟩, ⟨(some 9), (.bin .geq (.tmp 8) (.cst (.int .i64 0))), (some (7, true))⟩, ⟨(some 10), (.pick (.tmp 7) (.tmp 9) (.cst (.bool false))), none⟩, ⟨(some 11), (.mv (.tmp 10)), none⟩, ⟨(some 12), (.mv (.tmp 0)), (some (11, true))⟩, ⟨(some 13), (.mv (.tmp 1)), (some (11, true))⟩, ⟨(some 14), (.bin .quo (.tmp 13) (.cst (.int .i64 2))), (some (11, true))⟩, ⟨(some 15), (.bin .gtr (.tmp 12) (.tmp 14)), (some (11, true))⟩, ⟨(some 16), (.pick (.tmp 11) (.tmp 15) (.cst (.bool false))), none⟩, ⟨(some 4), (.mv (.tmp 16)), none⟩]
def A10 : AFun := ⟨17, 2, [(.tmp 4)], (.seq (.reg A10r1 [0, 1]) (.seq (.reg A10r2 [4]) .ret))⟩
theorem A10c : compF Try.prog Try.f10 = some A10 := by kernel_rfl
theorem A10k : Callable Try.prog 10 := fun a w => Try.call10 a w
theorem A10p {ds : List D} {r : D} (hl : ds.length ≤ A10.nt) (hw : W Try.prog A10.code (Fin A10.results r) ⟨argEnv 0 ds, fun _ => none⟩) : PCon Try.prog 10 ds r := pcon_of_W mixed Try.func10 A10k A10c hl hw
/- estovers/estoversref30.Background -/
/- estovers/throttle.Share -/
abbrev A12r1 : List AIns := [⟨(some 6), (.mv (.cst (.int .i64 0))), none⟩, ⟨(some 7), (.mv (.cst (.int .i64 0))), none⟩]
abbrev A12r2 : List AIns := [⟨(some 9), (.mv (.tmp 0)), none⟩, ⟨(some 10), (.call (.fnc 20) [(.tmp 9)]), none⟩, ⟨(some 8), (.mv (.tmp 10)), none⟩]
abbrev A12r3 : List AIns := [⟨(some 11), (.mv (.tmp 8)), none⟩, ⟨(some 12), (.bin .neq (.tmp 11) (.cst (.int .i64 0))), none⟩]
abbrev A12r4 : List AIns := [⟨(some 13), (.mv (.tmp 8)), none⟩, ⟨(some 6), (.mv (.cst (.int .i64 0))), none⟩, ⟨(some 7), (.mv (.tmp 13)), none⟩]
abbrev A12r5 : List AIns := [⟨(some 14), (.mv (.tmp 1)), none⟩, ⟨(some 15), (.bin .lss (.tmp 14) (.cst (.int .i64 0))), none⟩, ⟨(some 16), (.mv (.tmp 15)), none⟩, ⟨(some 17), (.mv (.tmp 1)), (some (16, false))⟩, ⟨(some 18), (.bin .gtr (.tmp 17) (.cst (.int .i64 1048576))), (some (16, false))⟩, ⟨(some 19), (.pick (.tmp 16) (.cst (.bool true)) (.tmp 18)), none⟩]
abbrev A12r6 : List AIns := [⟨(some 6), (.mv (.cst (.int .i64 0))), none⟩, ⟨(some 7), (.mv (.cst (.int .i64 2))), none⟩]
abbrev A12r7 : List AIns := [⟨(some 20), (.mv (.tmp 2)), none⟩, ⟨(some 21), (.bin .lss (.tmp 20) (.cst (.int .i64 0))), none⟩, ⟨(some 22), (.mv (.tmp 21)), none⟩, ⟨(some 23), (.mv (.tmp 2)), (some (22, false))⟩, ⟨(some 24), (.mv (.tmp 0)), (some (22, false))⟩, ⟨(some 25), (.len (.tmp 24)), (some (22, false))⟩, ⟨(some 26), (.bin .geq (.tmp 23) (.tmp 25)), (some (22, false))⟩, ⟨(some 27), (.pick (.tmp 22) (.cst (.bool true)) (.tmp 26)), none⟩]
abbrev A12r8 : List AIns := [⟨(some 6), (.mv (.cst (.int .i64 0))), none⟩, ⟨(some 7), (.mv (.cst (.int .i64 6))), none⟩]
abbrev A12r9 : List AIns := [⟨(some 28), (.mv (.tmp 0)), none⟩, ⟨(some 29), (.iaddr 5 (.tmp 28) (.cst (.int .i64 0))), none⟩, ⟨(some 30), (.faddr 1 (.tmp 29)), none⟩, ⟨(some 31), (.load false 1 (.tmp 30)), none⟩, ⟨(some 32), (.bin .eql (.tmp 31) (.cst (.int .i64 0))), none⟩]
abbrev A12r10 : List AIns := [⟨(some 33), (.mv (.tmp 1)), none⟩, ⟨(some 6), (.mv (.tmp 33)), none⟩, ⟨(some 7), (.mv (.cst (.int .i64 0))), none⟩]
abbrev A12d11 : List AIns := [⟨(some 34), (.mv (.tmp 1)), none⟩, ⟨(some 35), (.mv (.tmp 0)), none⟩, ⟨(some 36), (.mv (.tmp 2)), none⟩, ⟨(some 37), (.iaddr 5 (.tmp 35) (.tmp 36)), none⟩, ⟨(some 38), (.faddr 1 (.tmp 37)), none⟩, ⟨(some 39), (.load false 1 (.tmp 38)), none⟩, ⟨(some 40), (.bin .mul (.tmp 34) (.tmp 39)), none⟩, ⟨(some 41), (.mv (.tmp 0)), none⟩, ⟨(some 42), (.iaddr 5 (.tmp 41) (.cst (.int .i64 0))), none⟩, ⟨(some 43), (.faddr 1 (.tmp 42)), none⟩, ⟨(some 44), (.load false 1 (.tmp 43)), none⟩, ⟨(some 45), (.bin .quo (.tmp 40) (.tmp 44)), none⟩, ⟨(some 6), (.mv (.tmp 45)), none⟩, ⟨(some 7), (.mv (.cst (.int .i64 0))), none⟩]
def A12 : AFun := ⟨46, 3, [(.tmp 6), (.tmp 7)], (.seq (.reg A12r1 [0, 1, 2]) (.seq (.seq (.reg A12r2 [0, 1, 2, 8]) (.seq (.reg A12r3 [0, 1, 2, 8, 12]) (.cond (.tmp 12) [8] (.seq (.reg A12r4 [6, 7]) .ret) [0, 1, 2] .skip))) (.seq (.seq (.reg A12r5 [0, 1, 2, 19]) (.cond (.tmp 19) [] (.seq (.reg A12r6 [6, 7]) .ret) [0, 1, 2] .skip)) (.seq (.seq (.reg A12r7 [0, 1, 2, 27]) (.cond (.tmp 27) [] (.seq (.reg A12r8 [6, 7]) .ret) [0, 1, 2] .skip)) (.seq (.seq (.reg A12r9 [0, 1, 2, 32]) (.cond (.tmp 32) [1] (.seq (.reg A12r10 [6, 7]) .ret) [0, 1, 2] .skip)) (.seq (.dreg A12d11 [[], [], [], [1, 2], [1, 2, 3], [1, 2, 3, 4], [0, 1, 2, 3, 4, 5], [], [7], [7, 8], [7, 8, 9], [0, 1, 2, 3, 4, 5, 6, 7, 8, 9, 10], [0, 1, 2, 3, 4, 5, 6, 7, 8, 9, 10, 11], [0, 1, 2, 3, 4, 5, 6, 7, 8, 9, 10, 11, 12]] [6, 7]) .ret))))))⟩
theorem A12c : compF Try.prog Try.f12 = some A12 := by kernel_rfl
theorem A12k : Callable Try.prog 12 := fun a w => Try.call12 a w
theorem A12p {ds : List D} {r : D} (hl : ds.length ≤ A12.nt) (hw : W Try.prog A12.code (Fin A12.results r) ⟨argEnv 0 ds, fun _ => none⟩) : PCon Try.prog 12 ds r := pcon_of_W mixed Try.func12 A12k A12c hl hw
/- estovers/estoversref30.Share -/
/- estovers/estoverslaw30.Frames -/
abbrev A14r1 : List AIns := [⟨(some 2), (.mv (.cst .nil)), none⟩]
abbrev A14r2 : List AIns := [⟨(some 3), (.mv (.cst .nil)), none⟩]
abbrev A14r3 : List AIns := [⟨(some 6), (.mv (.tmp 0)), none⟩, ⟨(some 7), (.len (.tmp 6)), none⟩, ⟨(some 8), (.mv (.cst (.int .i64 0))), none⟩]
abbrev A14r5 : List AIns := [⟨(some 9), (.bin .lss (.tmp 8) (.tmp 7)), none⟩]
abbrev A14r6 : List AIns := [⟨(some 10), (.iaddr 4 (.tmp 6) (.tmp 8)), none⟩, ⟨(some 11), (.load true 4 (.tmp 10)), none⟩, ⟨(some 5), (.alloc [(.int .u8 0), (.int .u8 0), (.bool false), (.int .i64 0)]), none⟩, ⟨none, (.store 4 (.tmp 5) (.tmp 11)), none⟩]
abbrev A14r7 : List AIns := [⟨(some 12), (.mv (.tmp 3)), none⟩, ⟨(some 13), (.faddr 0 (.tmp 5)), none⟩, ⟨(some 14), (.load false 1 (.tmp 13)), none⟩, ⟨(some 15), (.conv .i64 (.tmp 14)), none⟩, ⟨(some 16), (.faddr 1 (.tmp 5)), none⟩, ⟨(some 17), (.load false 1 (.tmp 16)), none⟩, ⟨(some 18), (.conv .i64 (.tmp 17)), none⟩, ⟨(some 19), (.faddr 2 (.tmp 5)), none⟩, ⟨(some 20), (.load false 1 (.tmp 19)), none⟩, ⟨(some 21), (.faddr 3 (.tmp 5)), none⟩, ⟨(some 22), (.load false 1 (.tmp 21)), none⟩, ⟨(some 23), (.build [(.int .i64 0), (.int .i64 0), (.int .i64 0), (.int .i64 0), (.int .i64 0), (.int .i64 0), (.int .i64 0), (.int .i64 0), (.int .i64 0), (.int .i64 0), (.bool false), (.bool false), (.bool false), (.int .i64 0), .nil, .nil] [(0, (1, (.tmp 15))), (1, (1, (.tmp 18))), (10, (1, (.tmp 20))), (9, (1, (.tmp 22)))]), none⟩, ⟨(some 24), (.buildS 16 [(.int .i64 0), (.int .i64 0), (.int .i64 0), (.int .i64 0), (.int .i64 0), (.int .i64 0), (.int .i64 0), (.int .i64 0), (.int .i64 0), (.int .i64 0), (.bool false), (.bool false), (.bool false), (.int .i64 0), .nil, .nil] 1 [(0, (16, (.tmp 23)))]), none⟩, ⟨(some 25), (.append 16 144 (.tmp 12) (.tmp 24)), none⟩, ⟨(some 3), (.mv (.tmp 25)), none⟩]
abbrev A14c8 : ACode := (.seq (.reg A14r6 [3, 5, 6, 7, 8]) (.reg A14r7 [3, 6, 7, 8]))
abbrev A14r9 : List AIns := [⟨(some 26), (.bin .add (.tmp 8) (.cst (.int .i64 1))), none⟩, ⟨(some 8), (.mv (.tmp 26)), none⟩]
abbrev A14l4 : ACode := (.seq (.reg A14r5 [3, 6, 7, 8, 9]) (.seq (.cond (.tmp 9) [3, 6, 7, 8] .skip [3] (.exit 0)) (.seq (.block 1 A14c8) (.reg A14r9 [3, 6, 7, 8]))))
abbrev A14r10 : List AIns := [⟨(some 27), (.mv (.tmp 3)), none⟩, ⟨(some 2), (.mv (.tmp 27)), none⟩]
def A14 : AFun := ⟨28, 1, [(.tmp 2)], (.seq (.reg A14r1 [0]) (.seq (.reg A14r2 [0, 3]) (.seq (.seq (.reg A14r3 [3, 6, 7, 8]) (.block 0 (.loop A14l4))) (.seq (.reg A14r10 [2]) .ret))))⟩
theorem A14c : compF Try.prog Try.f14 = some A14 := by kernel_rfl
theorem A14k : Callable Try.prog 14 := fun a w => Try.call14 a w
theorem A14p {ds : List D} {r : D} (hl : ds.length ≤ A14.nt) (hw : W Try.prog A14.code (Fin A14.results r) ⟨argEnv 0 ds, fun _ => none⟩) : PCon Try.prog 14 ds r := pcon_of_W mixed Try.func14 A14k A14c hl hw
/- estovers/throttle.Oldest -/
abbrev A15r1 : List AIns := [⟨(some 2), (.mv (.cst (.int .i64 0))), none⟩]
abbrev A15r2 : List AIns := [⟨(some 3), (.mv (.cst (.int .i64 (-1)))), none⟩]
abbrev A15r3 : List AIns := [⟨(some 6), (.mv (.tmp 0)), none⟩, ⟨(some 7), (.len (.tmp 6)), none⟩, ⟨(some 8), (.mv (.cst (.int .i64 0))), none⟩]
abbrev A15r5 : List AIns := [⟨(some 9), (.bin .lss (.tmp 8) (.tmp 7)), none⟩]
abbrev A15r6 : List AIns := [⟨(some 10), (.mv (.tmp 8)), none⟩, ⟨(some 11), (.iaddr 16 (.tmp 6) (.tmp 8)), none⟩, ⟨(some 12), (.load true 16 (.tmp 11)), none⟩, ⟨(some 5), (.alloc [(.int .i64 0), (.int .i64 0), (.int .i64 0), (.int .i64 0), (.int .i64 0), (.int .i64 0), (.int .i64 0), (.int .i64 0), (.int .i64 0), (.int .i64 0), (.bool false), (.bool false), (.bool false), (.int .i64 0), .nil, .nil]), none⟩, ⟨(some 4), (.mv (.tmp 10)), none⟩, ⟨none, (.store 16 (.tmp 5) (.tmp 12)), none⟩]
abbrev A15r7 : List AIns := [⟨(some 13), (.faddr 0 (.tmp 5)), none⟩, ⟨(some 14), (.load false 1 (.tmp 13)), none⟩, ⟨(some 15), (.bin .neq (.tmp 14) (.cst (.int .i64 4))), none⟩, ⟨(some 16), (.mv (.tmp 15)), none⟩, ⟨(some 17), (.faddr 10 (.tmp 5)), (some (16, false))⟩, ⟨(some 18), (.load false 1 (.tmp 17)), (some (16, false))⟩, ⟨(some 19), (.un .not (.tmp 18)), (some (16, false))⟩, ⟨(some 20), (.pick (.tmp 16) (.cst (.bool true)) (.tmp 19)), none⟩, ⟨(some 21), (.mv (.tmp 20)), none⟩, ⟨(some 22), (.faddr 1 (.tmp 5)), (some (21, false))⟩, ⟨(some 23), (.load false 1 (.tmp 22)), (some (21, false))⟩, ⟨(some 24), (.bin .neq (.tmp 23) (.cst (.int .i64 0))), (some (21, false))⟩, ⟨(some 25), (.pick (.tmp 21) (.cst (.bool true)) (.tmp 24)), none⟩]
abbrev A15d8 : List AIns := [⟨(some 26), (.mv (.tmp 3)), none⟩, ⟨(some 27), (.bin .lss (.tmp 26) (.cst (.int .i64 0))), none⟩, ⟨(some 28), (.mv (.tmp 27)), none⟩, ⟨(some 29), (.faddr 9 (.tmp 5)), (some (28, false))⟩, ⟨(some 30), (.load false 1 (.tmp 29)), (some (28, false))⟩, ⟨(some 31), (.mv (.tmp 0)), (some (28, false))⟩, ⟨(some 32), (.mv (.tmp 3)), (some (28, false))⟩, ⟨(some 33), (.iaddr 16 (.tmp 31) (.tmp 32)), (some (28, false))⟩, ⟨(some 34), (.faddr 9 (.tmp 33)), (some (28, false))⟩, ⟨(some 35), (.load false 1 (.tmp 34)), (some (28, false))⟩, ⟨(some 36), (.bin .lss (.tmp 30) (.tmp 35)), (some (28, false))⟩, ⟨(some 37), (.pick (.tmp 28) (.cst (.bool true)) (.tmp 36)), none⟩]
abbrev A15r9 : List AIns := [⟨(some 38), (.mv (.tmp 4)), none⟩, ⟨(some 3), (.mv (.tmp 38)), none⟩]
abbrev A15c10 : ACode := (.seq (.reg A15r6 [0, 3, 4, 5, 6, 7, 8]) (.seq (.seq (.reg A15r7 [0, 3, 4, 5, 6, 7, 8, 25]) (.cond (.tmp 25) [0, 3, 6, 7, 8] (.exit 1) [0, 3, 4, 5, 6, 7, 8] .skip)) (.seq (.dreg A15d8 [[], [0], [0, 1], [0, 1, 2], [0, 1, 2, 3], [0, 1, 2], [0, 1, 2], [0, 1, 2, 5, 6], [0, 1, 2, 5, 6, 7], [0, 1, 2, 5, 6, 7, 8], [0, 1, 2, 3, 4, 5, 6, 7, 8, 9], [0, 1, 2, 3, 4, 5, 6, 7, 8, 9, 10]] [0, 3, 4, 6, 7, 8, 37]) (.cond (.tmp 37) [0, 4, 6, 7, 8] (.reg A15r9 [0, 3, 6, 7, 8]) [0, 3, 6, 7, 8] .skip))))
abbrev A15r11 : List AIns := [⟨(some 39), (.bin .add (.tmp 8) (.cst (.int .i64 1))), none⟩, ⟨(some 8), (.mv (.tmp 39)), none⟩]
abbrev A15l4 : ACode := (.seq (.reg A15r5 [0, 3, 6, 7, 8, 9]) (.seq (.cond (.tmp 9) [0, 3, 6, 7, 8] .skip [3] (.exit 0)) (.seq (.block 1 A15c10) (.reg A15r11 [0, 3, 6, 7, 8]))))
abbrev A15r12 : List AIns := [⟨(some 40), (.mv (.tmp 3)), none⟩, ⟨(some 2), (.mv (.tmp 40)), none⟩]
def A15 : AFun := ⟨41, 1, [(.tmp 2)], (.seq (.reg A15r1 [0]) (.seq (.reg A15r2 [0, 3]) (.seq (.seq (.reg A15r3 [0, 3, 6, 7, 8]) (.block 0 (.loop A15l4))) (.seq (.reg A15r12 [2]) .ret))))⟩
theorem A15c : compF Try.prog Try.f15 = some A15 := by kernel_rfl
theorem A15k : Callable Try.prog 15 := fun a w => Try.call15 a w
theorem A15p {ds : List D} {r : D} (hl : ds.length ≤ A15.nt) (hw : W Try.prog A15.code (Fin A15.results r) ⟨argEnv 0 ds, fun _ => none⟩) : PCon Try.prog 15 ds r := pcon_of_W mixed Try.func15 A15k A15c hl hw
/- estovers/throttle.Allowed -/
abbrev A16r1 : List AIns := [⟨(some 4), (.mv (.cst (.bool false))), none⟩]
abbrev A16r2 : List AIns := [⟨(some 5), (.mv (.tmp 0)), none⟩, ⟨(some 6), (.call (.fnc 17) [(.tmp 5)]), none⟩, ⟨(some 7), (.mv (.tmp 1)), none⟩, ⟨(some 8), (.bin .lss (.tmp 6) (.tmp 7)), none⟩, ⟨(some 4), (.mv (.tmp 8)), none⟩]
def A16 : AFun := ⟨9, 2, [(.tmp 4)], (.seq (.reg A16r1 [0, 1]) (.seq (.reg A16r2 [4]) .ret))⟩
theorem A16c : compF Try.prog Try.f16 = some A16 := by kernel_rfl
theorem A16k : Callable Try.prog 16 := fun a w => Try.call16 a w
theorem A16p {ds : List D} {r : D} (hl : ds.length ≤ A16.nt) (hw : W Try.prog A16.code (Fin A16.results r) ⟨argEnv 0 ds, fun _ => none⟩) : PCon Try.prog 16 ds r := pcon_of_W mixed Try.func16 A16k A16c hl hw
/- estovers/throttle.Count -/
abbrev A17r1 : List AIns := [⟨(some 2), (.mv (.cst (.int .i64 0))), none⟩]
abbrev A17r2 : List AIns := [⟨(some 3), (.mv (.cst (.int .i64 0))), none⟩]
abbrev A17r3 : List AIns := [⟨(some 5), (.mv (.tmp 0)), none⟩, ⟨(some 6), (.len (.tmp 5)), none⟩, ⟨(some 7), (.mv (.cst (.int .i64 0))), none⟩]
abbrev A17r5 : List AIns := [⟨(some 8), (.bin .lss (.tmp 7) (.tmp 6)), none⟩]
abbrev A17r6 : List AIns := [⟨(some 9), (.mv (.tmp 7)), none⟩, ⟨(some 4), (.mv (.tmp 9)), none⟩]
abbrev A17r7 : List AIns := [⟨(some 10), (.mv (.tmp 0)), none⟩, ⟨(some 11), (.mv (.tmp 4)), none⟩, ⟨(some 12), (.iaddr 16 (.tmp 10) (.tmp 11)), none⟩, ⟨(some 13), (.load true 16 (.tmp 12)), none⟩, ⟨(some 14), (.call (.fnc 19) [(.tmp 13)]), none⟩]
abbrev A17r8 : List AIns := [⟨(some 15), (.mv (.tmp 3)), none⟩, ⟨(some 16), (.bin .add (.tmp 15) (.cst (.int .i64 1))), none⟩, ⟨(some 3), (.mv (.tmp 16)), none⟩]
abbrev A17c9 : ACode := (.seq (.reg A17r6 [0, 3, 4, 6, 7]) (.seq (.reg A17r7 [0, 3, 6, 7, 14]) (.cond (.tmp 14) [0, 3, 6, 7] (.reg A17r8 [0, 3, 6, 7]) [0, 3, 6, 7] .skip)))
abbrev A17r10 : List AIns := [⟨(some 17), (.bin .add (.tmp 7) (.cst (.int .i64 1))), none⟩, ⟨(some 7), (.mv (.tmp 17)), none⟩]
abbrev A17l4 : ACode := (.seq (.reg A17r5 [0, 3, 6, 7, 8]) (.seq (.cond (.tmp 8) [0, 3, 6, 7] .skip [3] (.exit 0)) (.seq (.block 1 A17c9) (.reg A17r10 [0, 3, 6, 7]))))
abbrev A17r11 : List AIns := [⟨(some 18), (.mv (.tmp 3)), none⟩, ⟨(some 2), (.mv (.tmp 18)), none⟩]
def A17 : AFun := ⟨19, 1, [(.tmp 2)], (.seq (.reg A17r1 [0]) (.seq (.reg A17r2 [0, 3]) (.seq (.seq (.reg A17r3 [0, 3, 6, 7]) (.block 0 (.loop A17l4))) (.seq (.reg A17r11 [2]) .ret))))⟩
theorem A17c : compF Try.prog Try.f17 = some A17 := by kernel_rfl
theorem A17k : Callable Try.prog 17 := fun a w => Try.call17 a w
theorem A17p {ds : List D} {r : D} (hl : ds.length ≤ A17.nt) (hw : W Try.prog A17.code (Fin A17.results r) ⟨argEnv 0 ds, fun _ => none⟩) : PCon Try.prog 17 ds r := pcon_of_W mixed Try.func17 A17k A17c hl hw
/- estovers/estoversref19.Check -/
abbrev A18r1 : List AIns := [⟨(some 2), (.mv (.cst (.int .i64 0))), none⟩]
abbrev A18r2 : List AIns := [⟨(some 7), (.mv (.tmp 0)), none⟩, ⟨(some 8), (.len (.tmp 7)), none⟩, ⟨(some 9), (.bin .lss (.tmp 8) (.cst (.int .i64 1))), none⟩, ⟨(some 10), (.mv (.tmp 9)), none⟩, ⟨(some 11), (.mv (.tmp 0)), (some (10, false))⟩, ⟨(some 12), (.len (.tmp 11)), (some (10, false))⟩, ⟨(some 13), (.bin .gtr (.tmp 12) (.cst (.int .i64 8))), (some (10, false))⟩, ⟨(some 14), (.pick (.tmp 10) (.cst (.bool true)) (.tmp 13)), none⟩]
abbrev A18r3 : List AIns := [⟨(some 2), (.mv (.cst (.int .i64 9))), none⟩]
abbrev A18r4 : List AIns := [⟨(some 3), (.mv (.cst (.int .i64 0))), none⟩]
abbrev A18r6 : List AIns := [⟨(some 15), (.mv (.tmp 3)), none⟩, ⟨(some 16), (.mv (.tmp 0)), none⟩, ⟨(some 17), (.len (.tmp 16)), none⟩, ⟨(some 18), (.bin .lss (.tmp 15) (.tmp 17)), none⟩]
abbrev A18r7 : List AIns := [⟨(some 21), (.mv (.tmp 3)), none⟩, ⟨(some 22), (.bin .eql (.tmp 21) (.cst (.int .i64 0))), none⟩, ⟨(some 23), (.mv (.tmp 22)), none⟩, ⟨(some 24), (.mv (.tmp 0)), (some (23, true))⟩, ⟨(some 25), (.mv (.tmp 3)), (some (23, true))⟩, ⟨(some 26), (.iaddr 5 (.tmp 24) (.tmp 25)), (some (23, true))⟩, ⟨(some 27), (.faddr 0 (.tmp 26)), (some (23, true))⟩, ⟨(some 28), (.load false 1 (.tmp 27)), (some (23, true))⟩, ⟨(some 29), (.bin .neq (.tmp 28) (.cst (.int .i64 (-1)))), (some (23, true))⟩, ⟨(some 30), (.pick (.tmp 23) (.tmp 29) (.cst (.bool false))), none⟩, ⟨(some 31), (.mv (.tmp 30)), none⟩, ⟨(some 32), (.mv (.tmp 3)), (some (31, false))⟩, ⟨(some 33), (.bin .gtr (.tmp 32) (.cst (.int .i64 0))), (some (31, false))⟩, ⟨(some 34), (.mv (.tmp 33)), (some (31, false))⟩, ⟨(some 35), (.mv (.tmp 0)), (some (34, true))⟩, ⟨(some 36), (.mv (.tmp 3)), (some (34, true))⟩, ⟨(some 37), (.iaddr 5 (.tmp 35) (.tmp 36)), (some (34, true))⟩, ⟨(some 38), (.faddr 0 (.tmp 37)), (some (34, true))⟩, ⟨(some 39), (.load false 1 (.tmp 38)), (some (34, true))⟩, ⟨(some 40), (.bin .lss (.tmp 39) (.cst (.int .i64 0))), (some (34, true))⟩, ⟨(some 41), (.mv (.tmp 40)), (some (34, true))⟩, ⟨(some 42), (.mv (.tmp 0)), (some (41, false))⟩, ⟨(some 43), (.mv (.tmp 3)), (some (41, false))⟩, ⟨(some 44), (.iaddr 5 (.tmp 42) (.tmp 43)), (some (41, false))⟩, ⟨(some 45), (.faddr 0 (.tmp 44)), (some (41, false))⟩, ⟨(some 46), (.load false 1 (.tmp 45)), (some (41, false))⟩, ⟨(some 47), (.mv (.tmp 3)), (some (41, false))⟩, ⟨(some 48), (.bin .geq (.tmp 46) (.tmp 47)), (some (41, false))⟩, ⟨(some 49), (.pick (.tmp 41) (.cst (.bool true)) (.tmp 48)), (some (34, true))⟩, ⟨(some 50), (.pick (.tmp 34) (.tmp 49) (.cst (.bool false))), (some (31, false))⟩, ⟨(some 51), (.pick (.tmp 31) (.cst (.bool true)) (.tmp 50)), none⟩]
abbrev A18r8 : List AIns := [⟨(some 2), (.mv (.cst (.int .i64 1))), none⟩]
abbrev A18c9 : ACode := (.seq (.reg A18r7 [0, 3, 51]) (.cond (.tmp 51) [] (.seq (.reg A18r8 [2]) .ret) [0, 3] .skip))
abbrev A18r10 : List AIns := [⟨(some 19), (.mv (.tmp 3)), none⟩, ⟨(some 20), (.bin .add (.tmp 19) (.cst (.int .i64 1))), none⟩, ⟨(some 3), (.mv (.tmp 20)), none⟩]
abbrev A18l5 : ACode := (.seq (.seq (.reg A18r6 [0, 3, 18]) (.cond (.tmp 18) [0, 3] .skip [0] (.exit 0))) (.seq (.block 1 A18c9) (.reg A18r10 [0, 3])))
abbrev A18r11 : List AIns := [⟨(some 4), (.mv (.cst (.int .i64 0))), none⟩]
abbrev A18r13 : List AIns := [⟨(some 52), (.mv (.tmp 4)), none⟩, ⟨(some 53), (.mv (.tmp 0)), none⟩, ⟨(some 54), (.len (.tmp 53)), none⟩, ⟨(some 55), (.bin .lss (.tmp 52) (.tmp 54)), none⟩]
abbrev A18r14 : List AIns := [⟨(some 58), (.mv (.tmp 0)), none⟩, ⟨(some 59), (.mv (.tmp 4)), none⟩, ⟨(some 60), (.iaddr 5 (.tmp 58) (.tmp 59)), none⟩, ⟨(some 61), (.faddr 1 (.tmp 60)), none⟩, ⟨(some 62), (.load false 1 (.tmp 61)), none⟩, ⟨(some 63), (.call (.fnc 21) [(.tmp 62)]), none⟩, ⟨(some 64), (.un .not (.tmp 63)), none⟩, ⟨(some 65), (.mv (.tmp 64)), none⟩, ⟨(some 66), (.mv (.tmp 0)), (some (65, false))⟩, ⟨(some 67), (.mv (.tmp 4)), (some (65, false))⟩, ⟨(some 68), (.iaddr 5 (.tmp 66) (.tmp 67)), (some (65, false))⟩, ⟨(some 69), (.faddr 2 (.tmp 68)), (some (65, false))⟩, ⟨(some 70), (.load false 1 (.tmp 69)), (some (65, false))⟩, ⟨(some 71), (.call (.fnc 21) [(.tmp 70)]), (some (65, false))⟩, ⟨(some 72), (.un .not (.tmp 71)), (some (65, false))⟩, ⟨(some 73), (.pick (.tmp 65) (.cst (.bool true)) (.tmp 72)), none⟩, ⟨(some 74), (.mv (.tmp 73)), none⟩, ⟨(some 75), (.mv (.tmp 0)), (some (74, false))⟩, ⟨(some 76), (.mv (.tmp 4)), (some (74, false))⟩, ⟨(some 77), (.iaddr 5 (.tmp 75) (.tmp 76)), (some (74, false))⟩, ⟨(some 78), (.faddr 3 (.tmp 77)), (some (74, false))⟩, ⟨(some 79), (.load false 1 (.tmp 78)), (some (74, false))⟩, ⟨(some 80), (.call (.fnc 21) [(.tmp 79)]), (some (74, false))⟩, ⟨(some 81), (.un .not (.tmp 80)), (some (74, false))⟩, ⟨(some 82), (.pick (.tmp 74) (.cst (.bool true)) (.tmp 81)), none⟩, ⟨(some 83), (.mv (.tmp 82)), none⟩, ⟨(some 84), (.mv (.tmp 0)), (some (83, false))⟩, ⟨(some 85), (.mv (.tmp 4)), (some (83, false))⟩, ⟨(some 86), (.iaddr 5 (.tmp 84) (.tmp 85)), (some (83, false))⟩, ⟨(some 87), (.faddr 4 (.tmp 86)), (some (83, false))⟩, ⟨(some 88), (.load false 1 (.tmp 87)), (some (83, false))⟩, ⟨(some 89), (.call (.fnc 21) [(.tmp 88)]), (some (83, false))⟩, ⟨(some 90), (.un .not (.tmp 89)), (some (83, false))⟩, ⟨(some 91), (.pick (.tmp 83) (.cst (.bool true)) (.tmp 90)), none⟩]
abbrev A18r15 : List AIns := [⟨(some 2), (.mv (.cst (.int .i64 2))), none⟩]
abbrev A18c16 : ACode := (.seq (.reg A18r14 [0, 4, 91]) (.cond (.tmp 91) [] (.seq (.reg A18r15 [2]) .ret) [0, 4] .skip))
abbrev A18r17 : List AIns := [⟨(some 56), (.mv (.tmp 4)), none⟩, ⟨(some 57), (.bin .add (.tmp 56) (.cst (.int .i64 1))), none⟩, ⟨(some 4), (.mv (.tmp 57)), none⟩]
abbrev A18l12 : ACode := (.seq (.seq (.reg A18r13 [0, 4, 55]) (.cond (.tmp 55) [0, 4] .skip [0] (.exit 2))) (.seq (.block 3 A18c16) (.reg A18r17 [0, 4])))
abbrev A18r18 : List AIns := [⟨(some 92), (.mv (.tmp 0)), none⟩, ⟨(some 93), (.iaddr 5 (.tmp 92) (.cst (.int .i64 0))), none⟩, ⟨(some 94), (.faddr 2 (.tmp 93)), none⟩, ⟨(some 95), (.load false 1 (.tmp 94)), none⟩, ⟨(some 96), (.bin .neq (.tmp 95) (.cst (.int .i64 0))), none⟩, ⟨(some 97), (.mv (.tmp 96)), none⟩, ⟨(some 98), (.mv (.tmp 0)), (some (97, false))⟩, ⟨(some 99), (.iaddr 5 (.tmp 98) (.cst (.int .i64 0))), (some (97, false))⟩, ⟨(some 100), (.faddr 3 (.tmp 99)), (some (97, false))⟩, ⟨(some 101), (.load false 1 (.tmp 100)), (some (97, false))⟩, ⟨(some 102), (.bin .neq (.tmp 101) (.cst (.int .i64 0))), (some (97, false))⟩, ⟨(some 103), (.pick (.tmp 97) (.cst (.bool true)) (.tmp 102)), none⟩]
abbrev A18r19 : List AIns := [⟨(some 2), (.mv (.cst (.int .i64 2))), none⟩]
abbrev A18r20 : List AIns := [⟨(some 5), (.mv (.cst (.int .i64 0))), none⟩]
abbrev A18r22 : List AIns := [⟨(some 104), (.mv (.tmp 5)), none⟩, ⟨(some 105), (.mv (.tmp 0)), none⟩, ⟨(some 106), (.len (.tmp 105)), none⟩, ⟨(some 107), (.bin .lss (.tmp 104) (.tmp 106)), none⟩]
abbrev A18d23 : List AIns := [⟨(some 110), (.mv (.tmp 0)), none⟩, ⟨(some 111), (.mv (.tmp 5)), none⟩, ⟨(some 112), (.iaddr 5 (.tmp 110) (.tmp 111)), none⟩, ⟨(some 113), (.faddr 1 (.tmp 112)), none⟩, ⟨(some 114), (.load false 1 (.tmp 113)), none⟩, ⟨(some 115), (.mv (.tmp 0)), none⟩, ⟨(some 116), (.mv (.tmp 5)), none⟩, ⟨(some 117), (.iaddr 5 (.tmp 115) (.tmp 116)), none⟩, ⟨(some 118), (.faddr 4 (.tmp 117)), none⟩, ⟨(some 119), (.load false 1 (.tmp 118)), none⟩, ⟨(some 120), (.bin .gtr (.tmp 114) (.tmp 119)), none⟩]
abbrev A18r24 : List AIns := [⟨(some 2), (.mv (.cst (.int .i64 17))), none⟩]
abbrev A18c25 : ACode := (.seq (.dreg A18d23 [[], [], [0, 1], [0, 1, 2], [0, 1, 2, 3], [], [], [5, 6], [5, 6, 7], [5, 6, 7, 8], [0, 1, 2, 3, 4, 5, 6, 7, 8, 9]] [0, 5, 120]) (.cond (.tmp 120) [] (.seq (.reg A18r24 [2]) .ret) [0, 5] .skip))
abbrev A18r26 : List AIns := [⟨(some 108), (.mv (.tmp 5)), none⟩, ⟨(some 109), (.bin .add (.tmp 108) (.cst (.int .i64 1))), none⟩, ⟨(some 5), (.mv (.tmp 109)), none⟩]
abbrev A18l21 : ACode := (.seq (.seq (.reg A18r22 [0, 5, 107]) (.cond (.tmp 107) [0, 5] .skip [0] (.exit 4))) (.seq (.block 5 A18c25) (.reg A18r26 [0, 5])))
abbrev A18r27 : List AIns := [⟨(some 6), (.mv (.cst (.int .i64 0))), none⟩]
abbrev A18r29 : List AIns := [⟨(some 121), (.mv (.tmp 6)), none⟩, ⟨(some 122), (.mv (.tmp 0)), none⟩, ⟨(some 123), (.len (.tmp 122)), none⟩, ⟨(some 124), (.bin .lss (.tmp 121) (.tmp 123)), none⟩]
abbrev A18d30 : List AIns := [⟨(some 127), (.mv (.tmp 0)), none⟩, ⟨(some 128), (.mv (.tmp 6)), none⟩, ⟨(some 129), (.iaddr 5 (.tmp 127) (.tmp 128)), none⟩, ⟨(some 130), (.faddr 1 (.tmp 129)), none⟩, ⟨(some 131), (.load false 1 (.tmp 130)), none⟩, ⟨(some 132), (.mv (.tmp 0)), none⟩, ⟨(some 133), (.mv (.tmp 6)), none⟩, ⟨(some 134), (.call (.fnc 22) [(.tmp 132), (.tmp 133)]), none⟩, ⟨(some 135), (.bin .lss (.tmp 131) (.tmp 134)), none⟩]
abbrev A18r31 : List AIns := [⟨(some 2), (.mv (.cst (.int .i64 11))), none⟩]
abbrev A18c32 : ACode := (.seq (.dreg A18d30 [[], [], [0, 1], [0, 1, 2], [0, 1, 2, 3], [], [], [5, 6], [0, 1, 2, 3, 4, 5, 6, 7]] [0, 6, 135]) (.cond (.tmp 135) [] (.seq (.reg A18r31 [2]) .ret) [0, 6] .skip))
abbrev A18r33 : List AIns := [⟨(some 125), (.mv (.tmp 6)), none⟩, ⟨(some 126), (.bin .add (.tmp 125) (.cst (.int .i64 1))), none⟩, ⟨(some 6), (.mv (.tmp 126)), none⟩]
abbrev A18l28 : ACode := (.seq (.seq (.reg A18r29 [0, 6, 124]) (.cond (.tmp 124) [0, 6] .skip [] (.exit 6))) (.seq (.block 7 A18c32) (.reg A18r33 [0, 6])))
abbrev A18r34 : List AIns := [⟨(some 2), (.mv (.cst (.int .i64 0))), none⟩]
def A18 : AFun := ⟨136, 1, [(.tmp 2)], (.seq (.reg A18r1 [0]) (.seq (.seq (.reg A18r2 [0, 14]) (.cond (.tmp 14) [] (.seq (.reg A18r3 [2]) .ret) [0] .skip)) (.seq (.seq (.reg A18r4 [0, 3]) (.block 0 (.loop A18l5))) (.seq (.seq (.reg A18r11 [0, 4]) (.block 2 (.loop A18l12))) (.seq (.seq (.reg A18r18 [0, 103]) (.cond (.tmp 103) [] (.seq (.reg A18r19 [2]) .ret) [0] .skip)) (.seq (.seq (.reg A18r20 [0, 5]) (.block 4 (.loop A18l21))) (.seq (.seq (.reg A18r27 [0, 6]) (.block 6 (.loop A18l28))) (.seq (.reg A18r34 [2]) .ret))))))))⟩
theorem A18c : compF Try.prog Try.f18 = some A18 := by kernel_rfl
theorem A18k : Callable Try.prog 18 := fun a w => Try.call18 a w
theorem A18p {ds : List D} {r : D} (hl : ds.length ≤ A18.nt) (hw : W Try.prog A18.code (Fin A18.results r) ⟨argEnv 0 ds, fun _ => none⟩) : PCon Try.prog 18 ds r := pcon_of_W mixed Try.func18 A18k A18c hl hw
/- estovers/throttle.Counts -/
abbrev A19r1 : List AIns := [⟨(some 1), (.box (.tmp 0)), none⟩, ⟨(some 2), (.mv (.cst (.bool false))), none⟩]
abbrev A19r2 : List AIns := [⟨(some 3), (.faddr 0 (.tmp 1)), none⟩, ⟨(some 4), (.load false 1 (.tmp 3)), none⟩, ⟨(some 5), (.bin .eql (.tmp 4) (.cst (.int .i64 4))), none⟩, ⟨(some 6), (.mv (.tmp 5)), none⟩, ⟨(some 7), (.faddr 10 (.tmp 1)), (some (6, true))⟩, ⟨(some 8), (.load false 1 (.tmp 7)), (some (6, true))⟩, ⟨(some 9), (.mv (.tmp 8)), (some (6, true))⟩, ⟨(some 10), (.faddr 1 (.tmp 1)), (some (9, false))⟩, ⟨(some 11), (.load false 1 (.tmp 10)), (some (9, false))⟩, ⟨(some 12), (.bin .eql (.tmp 11) (.cst (.int .i64 2))), (some (9, false))⟩, ⟨(some 13), (.pick (.tmp 9) (.cst (.bool true)) (.tmp 12)), (some (6, true))⟩, ⟨(some 14), (.mv (.tmp 13)), (some (6, true))⟩, ⟨(some 15), (.faddr 1 (.tmp 1)), (some (14, false))⟩, ⟨(some 16), (.load false 1 (.tmp 15)), (some (14, false))⟩, ⟨(some 17), (.bin .eql (.tmp 16) (.cst (.int .i64 4))), (some (14, false))⟩, ⟨(some 18), (.pick (.tmp 14) (.cst (.bool true)) (.tmp 17)), (some (6, true))⟩, ⟨(some 19), (.pick (.tmp 6) (.tmp 18) (.cst (.bool false))), none⟩, ⟨(some 2), (.mv (.tmp 19)), none⟩]
def A19 : AFun := ⟨20, 1, [(.tmp 2)], (.seq (.reg A19r1 [1]) (.seq (.reg A19r2 [2]) .ret))⟩
theorem A19c : compF Try.prog Try.f19 = some A19 := by kernel_rfl
theorem A19k : Callable Try.prog 19 := fun a w => Try.call19 a w
theorem A19p {ds : List D} {r : D} (hl : ds.length ≤ A19.nt) (hw : W Try.prog A19.code (Fin A19.results r) ⟨argEnv 0 ds, fun _ => none⟩) : PCon Try.prog 19 ds r := pcon_of_W mixed Try.func19 A19k A19c hl hw
/- estovers/accounts.Check -/
abbrev A20r1 : List AIns := [⟨(some 2), (.mv (.cst (.int .i64 0))), none⟩]
abbrev A20r2 : List AIns := [⟨(some 4), (.mv (.tmp 0)), none⟩, ⟨(some 5), (.len (.tmp 4)), none⟩, ⟨(some 6), (.bin .lss (.tmp 5) (.cst (.int .i64 1))), none⟩, ⟨(some 7), (.mv (.tmp 6)), none⟩, ⟨(some 8), (.mv (.tmp 0)), (some (7, false))⟩, ⟨(some 9), (.len (.tmp 8)), (some (7, false))⟩, ⟨(some 10), (.bin .gtr (.tmp 9) (.cst (.int .i64 8))), (some (7, false))⟩, ⟨(some 11), (.pick (.tmp 7) (.cst (.bool true)) (.tmp 10)), none⟩, ⟨(some 3), (.mv (.tmp 11)), none⟩]
abbrev A20r3 : List AIns := [⟨(some 2), (.mv (.cst (.int .i64 9))), none⟩]
abbrev A20r4 : List AIns := [⟨(some 13), (.mv (.tmp 0)), none⟩, ⟨(some 14), (.call (.fnc 23) [(.tmp 13)]), none⟩, ⟨(some 15), (.un .not (.tmp 14)), none⟩, ⟨(some 12), (.mv (.tmp 15)), none⟩]
abbrev A20r5 : List AIns := [⟨(some 2), (.mv (.cst (.int .i64 1))), none⟩]
abbrev A20r6 : List AIns := [⟨(some 17), (.mv (.tmp 0)), none⟩, ⟨(some 18), (.call (.fnc 24) [(.tmp 17)]), none⟩, ⟨(some 19), (.un .not (.tmp 18)), none⟩, ⟨(some 16), (.mv (.tmp 19)), none⟩]
abbrev A20r7 : List AIns := [⟨(some 2), (.mv (.cst (.int .i64 2))), none⟩]
abbrev A20r8 : List AIns := [⟨(some 21), (.mv (.tmp 0)), none⟩, ⟨(some 22), (.call (.fnc 25) [(.tmp 21), (.fnc 26)]), none⟩, ⟨(some 20), (.mv (.tmp 22)), none⟩]
abbrev A20r9 : List AIns := [⟨(some 2), (.mv (.cst (.int .i64 17))), none⟩]
abbrev A20r10 : List AIns := [⟨(some 24), (.mv (.tmp 0)), none⟩, ⟨(some 25), (.call (.fnc 28) [(.tmp 24)]), none⟩, ⟨(some 26), (.call (.fnc 27) [(.tmp 25)]), none⟩, ⟨(some 27), (.bin .lss (.tmp 26) (.cst (.int .i64 0))), none⟩, ⟨(some 23), (.mv (.tmp 27)), none⟩]
abbrev A20r11 : List AIns := [⟨(some 2), (.mv (.cst (.int .i64 11))), none⟩]
abbrev A20c12 : ACode := (.seq (.reg A20r10 [23]) (.cond (.tmp 23) [] (.seq (.reg A20r11 [2]) .ret) [] .skip))
abbrev A20c13 : ACode := (.seq (.reg A20r8 [0, 20]) (.cond (.tmp 20) [] (.seq (.reg A20r9 [2]) .ret) [0] A20c12))
abbrev A20c14 : ACode := (.seq (.reg A20r6 [0, 16]) (.cond (.tmp 16) [] (.seq (.reg A20r7 [2]) .ret) [0] A20c13))
abbrev A20c15 : ACode := (.seq (.reg A20r4 [0, 12]) (.cond (.tmp 12) [] (.seq (.reg A20r5 [2]) .ret) [0] A20c14))
abbrev A20c16 : ACode := (.seq (.reg A20r2 [0, 3]) (.cond (.tmp 3) [] (.seq (.reg A20r3 [2]) .ret) [0] A20c15))
abbrev A20r17 : List AIns := [⟨(some 2), (.mv (.cst (.int .i64 0))), none⟩]
def A20 : AFun := ⟨28, 1, [(.tmp 2)], (.seq (.reg A20r1 [0]) (.seq (.block 0 A20c16) (.seq (.reg A20r17 [2]) .ret)))⟩
theorem A20c : compF Try.prog Try.f20 = some A20 := by kernel_rfl
theorem A20k : Callable Try.prog 20 := fun a w => Try.call20 a w
theorem A20p {ds : List D} {r : D} (hl : ds.length ≤ A20.nt) (hw : W Try.prog A20.code (Fin A20.results r) ⟨argEnv 0 ds, fun _ => none⟩) : PCon Try.prog 20 ds r := pcon_of_W mixed Try.func20 A20k A20c hl hw
/- estovers/estoversref19.in -/
abbrev A21r1 : List AIns := [⟨(some 2), (.mv (.cst (.bool false))), none⟩]
abbrev A21r2 : List AIns := [⟨(some 3), (.mv (.tmp 0)), none⟩, ⟨(some 4), (.bin .geq (.tmp 3) (.cst (.int .i64 0))), none⟩, ⟨(some 5), (.mv (.tmp 4)), none⟩, ⟨(some 6), (.mv (.tmp 0)), (some (5, true))⟩, ⟨(some 7), (.bin .leq (.tmp 6) (.cst (.int .i64 1048576))), (some (5, true))⟩, ⟨(some 8), (.pick (.tmp 5) (.tmp 7) (.cst (.bool false))), none⟩, ⟨(some 2), (.mv (.tmp 8)), none⟩]
def A21 : AFun := ⟨9, 1, [(.tmp 2)], (.seq (.reg A21r1 [0]) (.seq (.reg A21r2 [2]) .ret))⟩
theorem A21c : compF Try.prog Try.f21 = some A21 := by kernel_rfl
theorem A21k : Callable Try.prog 21 := fun a w => Try.call21 a w
theorem A21p {ds : List D} {r : D} (hl : ds.length ≤ A21.nt) (hw : W Try.prog A21.code (Fin A21.results r) ⟨argEnv 0 ds, fun _ => none⟩) : PCon Try.prog 21 ds r := pcon_of_W mixed Try.func21 A21k A21c hl hw
/- estovers/estoversref19.kids -/
abbrev A22r1 : List AIns := [⟨(some 4), (.mv (.cst (.int .i64 0))), none⟩]
abbrev A22r2 : List AIns := [⟨(some 5), (.mv (.cst (.int .i64 0))), none⟩]
abbrev A22r3 : List AIns := [⟨(some 6), (.mv (.cst (.int .i64 1))), none⟩]
abbrev A22r5 : List AIns := [⟨(some 7), (.mv (.tmp 6)), none⟩, ⟨(some 8), (.mv (.tmp 0)), none⟩, ⟨(some 9), (.len (.tmp 8)), none⟩, ⟨(some 10), (.bin .lss (.tmp 7) (.tmp 9)), none⟩]
abbrev A22r6 : List AIns := [⟨(some 13), (.mv (.tmp 0)), none⟩, ⟨(some 14), (.mv (.tmp 6)), none⟩, ⟨(some 15), (.iaddr 5 (.tmp 13) (.tmp 14)), none⟩, ⟨(some 16), (.faddr 0 (.tmp 15)), none⟩, ⟨(some 17), (.load false 1 (.tmp 16)), none⟩, ⟨(some 18), (.mv (.tmp 1)), none⟩, ⟨(some 19), (.bin .eql (.tmp 17) (.tmp 18)), none⟩]
abbrev A22r7 : List AIns := [⟨(some 20), (.mv (.tmp 5)), none⟩, ⟨(some 21), (.mv (.tmp 0)), none⟩, ⟨(some 22), (.mv (.tmp 6)), none⟩, ⟨(some 23), (.iaddr 5 (.tmp 21) (.tmp 22)), none⟩, ⟨(some 24), (.faddr 1 (.tmp 23)), none⟩, ⟨(some 25), (.load false 1 (.tmp 24)), none⟩, ⟨(some 26), (.bin .add (.tmp 20) (.tmp 25)), none⟩, ⟨(some 5), (.mv (.tmp 26)), none⟩]
abbrev A22c8 : ACode := (.seq (.reg A22r6 [0, 1, 5, 6, 19]) (.cond (.tmp 19) [0, 1, 5, 6] (.reg A22r7 [0, 1, 5, 6]) [0, 1, 5, 6] .skip))
abbrev A22r9 : List AIns := [⟨(some 11), (.mv (.tmp 6)), none⟩, ⟨(some 12), (.bin .add (.tmp 11) (.cst (.int .i64 1))), none⟩, ⟨(some 6), (.mv (.tmp 12)), none⟩]
abbrev A22l4 : ACode := (.seq (.seq (.reg A22r5 [0, 1, 5, 6, 10]) (.cond (.tmp 10) [0, 1, 5, 6] .skip [5] (.exit 0))) (.seq (.block 1 A22c8) (.reg A22r9 [0, 1, 5, 6])))
abbrev A22r10 : List AIns := [⟨(some 27), (.mv (.tmp 5)), none⟩, ⟨(some 4), (.mv (.tmp 27)), none⟩]
def A22 : AFun := ⟨28, 2, [(.tmp 4)], (.seq (.reg A22r1 [0, 1]) (.seq (.reg A22r2 [0, 1, 5]) (.seq (.seq (.reg A22r3 [0, 1, 5, 6]) (.block 0 (.loop A22l4))) (.seq (.reg A22r10 [4]) .ret))))⟩
theorem A22c : compF Try.prog Try.f22 = some A22 := by kernel_rfl
theorem A22k : Callable Try.prog 22 := fun a w => Try.call22 a w
theorem A22p {ds : List D} {r : D} (hl : ds.length ≤ A22.nt) (hw : W Try.prog A22.code (Fin A22.results r) ⟨argEnv 0 ds, fun _ => none⟩) : PCon Try.prog 22 ds r := pcon_of_W mixed Try.func22 A22k A22c hl hw
/- estovers/accounts.tree -/
abbrev A23r1 : List AIns := [⟨(some 2), (.mv (.cst (.bool false))), none⟩]
abbrev A23r2 : List AIns := [⟨(some 5), (.mv (.tmp 0)), none⟩, ⟨(some 6), (.len (.tmp 5)), none⟩, ⟨(some 7), (.mv (.cst (.int .i64 0))), none⟩]
abbrev A23r4 : List AIns := [⟨(some 8), (.bin .lss (.tmp 7) (.tmp 6)), none⟩]
abbrev A23r5 : List AIns := [⟨(some 9), (.mv (.tmp 7)), none⟩, ⟨(some 10), (.iaddr 5 (.tmp 5) (.tmp 7)), none⟩, ⟨(some 11), (.load true 5 (.tmp 10)), none⟩, ⟨(some 4), (.alloc [(.int .i64 0), (.int .i64 0), (.int .i64 0), (.int .i64 0), (.int .i64 0)]), none⟩, ⟨(some 3), (.mv (.tmp 9)), none⟩, ⟨none, (.store 5 (.tmp 4) (.tmp 11)), none⟩]
abbrev A23r6 : List AIns := [⟨(some 12), (.mv (.tmp 3)), none⟩, ⟨(some 13), (.bin .eql (.tmp 12) (.cst (.int .i64 0))), none⟩, ⟨(some 14), (.mv (.tmp 13)), none⟩, ⟨(some 15), (.faddr 0 (.tmp 4)), (some (14, true))⟩, ⟨(some 16), (.load false 1 (.tmp 15)), (some (14, true))⟩, ⟨(some 17), (.bin .neq (.tmp 16) (.cst (.int .i64 (-1)))), (some (14, true))⟩, ⟨(some 18), (.pick (.tmp 14) (.tmp 17) (.cst (.bool false))), none⟩, ⟨(some 19), (.mv (.tmp 18)), none⟩, ⟨(some 20), (.mv (.tmp 3)), (some (19, false))⟩, ⟨(some 21), (.bin .gtr (.tmp 20) (.cst (.int .i64 0))), (some (19, false))⟩, ⟨(some 22), (.mv (.tmp 21)), (some (19, false))⟩, ⟨(some 23), (.faddr 0 (.tmp 4)), (some (22, true))⟩, ⟨(some 24), (.load false 1 (.tmp 23)), (some (22, true))⟩, ⟨(some 25), (.bin .lss (.tmp 24) (.cst (.int .i64 0))), (some (22, true))⟩, ⟨(some 26), (.mv (.tmp 25)), (some (22, true))⟩, ⟨(some 27), (.faddr 0 (.tmp 4)), (some (26, false))⟩, ⟨(some 28), (.load false 1 (.tmp 27)), (some (26, false))⟩, ⟨(some 29), (.mv (.tmp 3)), (some (26, false))⟩, ⟨(some 30), (.bin .geq (.tmp 28) (.tmp 29)), (some (26, false))⟩, ⟨(some 31), (.pick (.tmp 26) (.cst (.bool true)) (.tmp 30)), (some (22, true))⟩, ⟨(some 32), (.pick (.tmp 22) (.tmp 31) (.cst (.bool false))), (some (19, false))⟩, ⟨(some 33), (.pick (.tmp 19) (.cst (.bool true)) (.tmp 32)), none⟩]
abbrev A23r7 : List AIns := [⟨(some 2), (.mv (.cst (.bool false))), none⟩]
abbrev A23c8 : ACode := (.seq (.reg A23r5 [3, 4, 5, 6, 7]) (.seq (.reg A23r6 [5, 6, 7, 33]) (.cond (.tmp 33) [] (.seq (.reg A23r7 [2]) .ret) [5, 6, 7] .skip)))
abbrev A23r9 : List AIns := [⟨(some 34), (.bin .add (.tmp 7) (.cst (.int .i64 1))), none⟩, ⟨(some 7), (.mv (.tmp 34)), none⟩]
abbrev A23l3 : ACode := (.seq (.reg A23r4 [5, 6, 7, 8]) (.seq (.cond (.tmp 8) [5, 6, 7] .skip [] (.exit 0)) (.seq (.block 1 A23c8) (.reg A23r9 [5, 6, 7]))))
abbrev A23r10 : List AIns := [⟨(some 2), (.mv (.cst (.bool true))), none⟩]
def A23 : AFun := ⟨35, 1, [(.tmp 2)], (.seq (.reg A23r1 [0]) (.seq (.seq (.reg A23r2 [5, 6, 7]) (.block 0 (.loop A23l3))) (.seq (.reg A23r10 [2]) .ret)))⟩
theorem A23c : compF Try.prog Try.f23 = some A23 := by kernel_rfl
theorem A23k : Callable Try.prog 23 := fun a w => Try.call23 a w
theorem A23p {ds : List D} {r : D} (hl : ds.length ≤ A23.nt) (hw : W Try.prog A23.code (Fin A23.results r) ⟨argEnv 0 ds, fun _ => none⟩) : PCon Try.prog 23 ds r := pcon_of_W mixed Try.func23 A23k A23c hl hw
/- estovers/accounts.amounts -/
abbrev A24r1 : List AIns := [⟨(some 2), (.mv (.cst (.bool false))), none⟩]
abbrev A24r2 : List AIns := [⟨(some 5), (.mv (.tmp 0)), none⟩, ⟨(some 6), (.len (.tmp 5)), none⟩, ⟨(some 7), (.mv (.cst (.int .i64 0))), none⟩]
abbrev A24r4 : List AIns := [⟨(some 8), (.bin .lss (.tmp 7) (.tmp 6)), none⟩]
abbrev A24r5 : List AIns := [⟨(some 9), (.iaddr 5 (.tmp 5) (.tmp 7)), none⟩, ⟨(some 10), (.load true 5 (.tmp 9)), none⟩, ⟨(some 4), (.alloc [(.int .i64 0), (.int .i64 0), (.int .i64 0), (.int .i64 0), (.int .i64 0)]), none⟩, ⟨none, (.store 5 (.tmp 4) (.tmp 10)), none⟩]
abbrev A24r6 : List AIns := [⟨(some 11), (.faddr 1 (.tmp 4)), none⟩, ⟨(some 12), (.load false 1 (.tmp 11)), none⟩, ⟨(some 13), (.call (.fnc 29) [(.tmp 12)]), none⟩, ⟨(some 14), (.un .not (.tmp 13)), none⟩, ⟨(some 15), (.mv (.tmp 14)), none⟩, ⟨(some 16), (.faddr 2 (.tmp 4)), (some (15, false))⟩, ⟨(some 17), (.load false 1 (.tmp 16)), (some (15, false))⟩, ⟨(some 18), (.call (.fnc 29) [(.tmp 17)]), (some (15, false))⟩, ⟨(some 19), (.un .not (.tmp 18)), (some (15, false))⟩, ⟨(some 20), (.pick (.tmp 15) (.cst (.bool true)) (.tmp 19)), none⟩, ⟨(some 21), (.mv (.tmp 20)), none⟩, ⟨(some 22), (.faddr 3 (.tmp 4)), (some (21, false))⟩, ⟨(some 23), (.load false 1 (.tmp 22)), (some (21, false))⟩, ⟨(some 24), (.call (.fnc 29) [(.tmp 23)]), (some (21, false))⟩, ⟨(some 25), (.un .not (.tmp 24)), (some (21, false))⟩, ⟨(some 26), (.pick (.tmp 21) (.cst (.bool true)) (.tmp 25)), none⟩, ⟨(some 27), (.mv (.tmp 26)), none⟩, ⟨(some 28), (.faddr 4 (.tmp 4)), (some (27, false))⟩, ⟨(some 29), (.load false 1 (.tmp 28)), (some (27, false))⟩, ⟨(some 30), (.call (.fnc 29) [(.tmp 29)]), (some (27, false))⟩, ⟨(some 31), (.un .not (.tmp 30)), (some (27, false))⟩, ⟨(some 32), (.pick (.tmp 27) (.cst (.bool true)) (.tmp 31)), none⟩]
abbrev A24r7 : List AIns := [⟨(some 2), (.mv (.cst (.bool false))), none⟩]
abbrev A24c8 : ACode := (.seq (.reg A24r5 [0, 4, 5, 6, 7]) (.seq (.reg A24r6 [0, 5, 6, 7, 32]) (.cond (.tmp 32) [] (.seq (.reg A24r7 [2]) .ret) [0, 5, 6, 7] .skip)))
abbrev A24r9 : List AIns := [⟨(some 33), (.bin .add (.tmp 7) (.cst (.int .i64 1))), none⟩, ⟨(some 7), (.mv (.tmp 33)), none⟩]
abbrev A24l3 : ACode := (.seq (.reg A24r4 [0, 5, 6, 7, 8]) (.seq (.cond (.tmp 8) [0, 5, 6, 7] .skip [0] (.exit 0)) (.seq (.block 1 A24c8) (.reg A24r9 [0, 5, 6, 7]))))
abbrev A24r10 : List AIns := [⟨(some 34), (.mv (.tmp 0)), none⟩, ⟨(some 35), (.iaddr 5 (.tmp 34) (.cst (.int .i64 0))), none⟩, ⟨(some 36), (.faddr 2 (.tmp 35)), none⟩, ⟨(some 37), (.load false 1 (.tmp 36)), none⟩, ⟨(some 38), (.bin .eql (.tmp 37) (.cst (.int .i64 0))), none⟩, ⟨(some 39), (.mv (.tmp 38)), none⟩, ⟨(some 40), (.mv (.tmp 0)), (some (39, true))⟩, ⟨(some 41), (.iaddr 5 (.tmp 40) (.cst (.int .i64 0))), (some (39, true))⟩, ⟨(some 42), (.faddr 3 (.tmp 41)), (some (39, true))⟩, ⟨(some 43), (.load false 1 (.tmp 42)), (some (39, true))⟩, ⟨(some 44), (.bin .eql (.tmp 43) (.cst (.int .i64 0))), (some (39, true))⟩, ⟨(some 45), (.pick (.tmp 39) (.tmp 44) (.cst (.bool false))), none⟩, ⟨(some 2), (.mv (.tmp 45)), none⟩]
def A24 : AFun := ⟨46, 1, [(.tmp 2)], (.seq (.reg A24r1 [0]) (.seq (.seq (.reg A24r2 [0, 5, 6, 7]) (.block 0 (.loop A24l3))) (.seq (.reg A24r10 [2]) .ret)))⟩
theorem A24c : compF Try.prog Try.f24 = some A24 := by kernel_rfl
theorem A24k : Callable Try.prog 24 := fun a w => Try.call24 a w
theorem A24p {ds : List D} {r : D} (hl : ds.length ≤ A24.nt) (hw : W Try.prog A24.code (Fin A24.results r) ⟨argEnv 0 ds, fun _ => none⟩) : PCon Try.prog 24 ds r := pcon_of_W mixed Try.func24 A24k A24c hl hw
/- slices.ContainsFunc[[]estovers/api.Account,estovers/api.Account] -/
abbrev A25r1 : List AIns := [⟨(some 4), (.mv (.cst (.bool false))), none⟩]
abbrev A25r2 : List AIns := [⟨(some 5), (.mv (.tmp 0)), none⟩, ⟨(some 6), (.mv (.tmp 1)), none⟩, ⟨(some 7), (.call (.fnc 30) [(.tmp 5), (.tmp 6)]), none⟩, ⟨(some 8), (.bin .geq (.tmp 7) (.cst (.int .i64 0))), none⟩, ⟨(some 4), (.mv (.tmp 8)), none⟩]
def A25 : AFun := ⟨9, 2, [(.tmp 4)], (.seq (.reg A25r1 [0, 1]) (.seq (.reg A25r2 [4]) .ret))⟩
theorem A25c : compF Try.prog Try.f25 = some A25 := by kernel_rfl
theorem A25k : Callable Try.prog 25 := fun a w => Try.call25 a w
theorem A25p {ds : List D} {r : D} (hl : ds.length ≤ A25.nt) (hw : W Try.prog A25.code (Fin A25.results r) ⟨argEnv 0 ds, fun _ => none⟩) : PCon Try.prog 25 ds r := pcon_of_W mixed Try.func25 A25k A25c hl hw
/- estovers/accounts.Check$1 -/
abbrev A26r1 : List AIns := [⟨(some 1), (.box (.tmp 0)), none⟩, ⟨(some 2), (.mv (.cst (.bool false))), none⟩]
abbrev A26r2 : List AIns := [⟨(some 3), (.faddr 1 (.tmp 1)), none⟩, ⟨(some 4), (.load false 1 (.tmp 3)), none⟩, ⟨(some 5), (.faddr 4 (.tmp 1)), none⟩, ⟨(some 6), (.load false 1 (.tmp 5)), none⟩, ⟨(some 7), (.bin .gtr (.tmp 4) (.tmp 6)), none⟩, ⟨(some 2), (.mv (.tmp 7)), none⟩]
def A26 : AFun := ⟨8, 1, [(.tmp 2)], (.seq (.reg A26r1 [1]) (.seq (.reg A26r2 [2]) .ret))⟩
theorem A26c : compF Try.prog Try.f26 = some A26 := by kernel_rfl
theorem A26k : Callable Try.prog 26 := fun a w => Try.call26 a w
theorem A26p {ds : List D} {r : D} (hl : ds.length ≤ A26.nt) (hw : W Try.prog A26.code (Fin A26.results r) ⟨argEnv 0 ds, fun _ => none⟩) : PCon Try.prog 26 ds r := pcon_of_W mixed Try.func26 A26k A26c hl hw
/- slices.Min[[]int,int] -/
abbrev A27r1 : List AIns := [⟨(some 2), (.mv (.cst (.int .i64 0))), none⟩]
abbrev A27r2 : List AIns := [⟨(some 5), (.mv (.tmp 0)), none⟩, ⟨(some 6), (.len (.tmp 5)), none⟩, ⟨(some 7), (.bin .lss (.tmp 6) (.cst (.int .i64 1))), none⟩]
abbrev A27r3 : List AIns := [⟨(some 8), .bad, none⟩, ⟨none, .bad, none⟩]
abbrev A27r4 : List AIns := [⟨(some 9), (.mv (.tmp 0)), none⟩, ⟨(some 10), (.iaddr 1 (.tmp 9) (.cst (.int .i64 0))), none⟩, ⟨(some 11), (.load false 1 (.tmp 10)), none⟩, ⟨(some 3), (.mv (.tmp 11)), none⟩]
abbrev A27r5 : List AIns := [⟨(some 4), (.mv (.cst (.int .i64 1))), none⟩]
abbrev A27r7 : List AIns := [⟨(some 12), (.mv (.tmp 4)), none⟩, ⟨(some 13), (.mv (.tmp 0)), none⟩, ⟨(some 14), (.len (.tmp 13)), none⟩, ⟨(some 15), (.bin .lss (.tmp 12) (.tmp 14)), none⟩]
abbrev A27r8 : List AIns := [⟨(some 18), (.mv (.tmp 3)), none⟩, ⟨(some 19), (.mv (.tmp 0)), none⟩, ⟨(some 20), (.mv (.tmp 4)), none⟩, ⟨(some 21), (.iaddr 1 (.tmp 19) (.tmp 20)), none⟩, ⟨(some 22), (.load false 1 (.tmp 21)), none⟩, ⟨(some 23), (.mima false [(.tmp 18), (.tmp 22)]), none⟩, ⟨(some 3), (.mv (.tmp 23)), none⟩]
abbrev A27r9 : List AIns := [⟨(some 16), (.mv (.tmp 4)), none⟩, ⟨(some 17), (.bin .add (.tmp 16) (.cst (.int .i64 1))), none⟩, ⟨(some 4), (.mv (.tmp 17)), none⟩]
abbrev A27l6 : ACode := (.seq (.seq (.reg A27r7 [0, 3, 4, 15]) (.cond (.tmp 15) [0, 3, 4] .skip [3] (.exit 0))) (.seq (.block 1 (.reg A27r8 [0, 3, 4])) (.reg A27r9 [0, 3, 4])))
abbrev A27r10 : List AIns := [⟨(some 24), (.mv (.tmp 3)), none⟩, ⟨(some 2), (.mv (.tmp 24)), none⟩]
def A27 : AFun := ⟨25, 1, [(.tmp 2)], (.seq (.reg A27r1 [0]) (.seq (.seq (.reg A27r2 [0, 7]) (.cond (.tmp 7) [0] (.reg A27r3 [0]) [0] .skip)) (.seq (.reg A27r4 [0, 3]) (.seq (.seq (.reg A27r5 [0, 3, 4]) (.block 0 (.loop A27l6))) (.seq (.reg A27r10 [2]) .ret)))))⟩
theorem A27c : compF Try.prog Try.f27 = some A27 := by kernel_rfl
theorem A27k : Callable Try.prog 27 := fun a w => Try.call27 a w
theorem A27p {ds : List D} {r : D} (hl : ds.length ≤ A27.nt) (hw : W Try.prog A27.code (Fin A27.results r) ⟨argEnv 0 ds, fun _ => none⟩) : PCon Try.prog 27 ds r := pcon_of_W mixed Try.func27 A27k A27c hl hw
/- estovers/accounts.own -/
abbrev A28r1 : List AIns := [⟨(some 2), (.mv (.cst .nil)), none⟩]
abbrev A28r2 : List AIns := [⟨(some 6), (.mv (.tmp 0)), none⟩, ⟨(some 7), (.len (.tmp 6)), none⟩, ⟨(some 8), (.mkslice 1 8 [(.int .i64 0)] (.tmp 7) (.tmp 7)), none⟩, ⟨(some 3), (.mv (.tmp 8)), none⟩]
abbrev A28r3 : List AIns := [⟨(some 9), (.mv (.tmp 0)), none⟩, ⟨(some 10), (.len (.tmp 9)), none⟩, ⟨(some 11), (.mv (.cst (.int .i64 0))), none⟩]
abbrev A28r5 : List AIns := [⟨(some 12), (.bin .lss (.tmp 11) (.tmp 10)), none⟩]
abbrev A28r6 : List AIns := [⟨(some 13), (.mv (.tmp 11)), none⟩, ⟨(some 14), (.iaddr 5 (.tmp 9) (.tmp 11)), none⟩, ⟨(some 15), (.load true 5 (.tmp 14)), none⟩, ⟨(some 5), (.alloc [(.int .i64 0), (.int .i64 0), (.int .i64 0), (.int .i64 0), (.int .i64 0)]), none⟩, ⟨(some 4), (.mv (.tmp 13)), none⟩, ⟨none, (.store 5 (.tmp 5) (.tmp 15)), none⟩]
abbrev A28d7 : List AIns := [⟨(some 16), (.mv (.tmp 3)), none⟩, ⟨(some 17), (.mv (.tmp 4)), none⟩, ⟨(some 18), (.iaddr 1 (.tmp 16) (.tmp 17)), none⟩, ⟨(some 19), (.load false 1 (.tmp 18)), none⟩, ⟨(some 20), (.faddr 1 (.tmp 5)), none⟩, ⟨(some 21), (.load false 1 (.tmp 20)), none⟩, ⟨(some 22), (.bin .add (.tmp 19) (.tmp 21)), none⟩, ⟨(some 23), (.iaddr 1 (.tmp 16) (.tmp 17)), none⟩, ⟨none, (.store 1 (.tmp 23) (.tmp 22)), none⟩]
abbrev A28d7p : List AIns := [⟨(some 16), (.mv (.tmp 3)), none⟩, ⟨(some 17), (.mv (.tmp 4)), none⟩, ⟨(some 18), (.iaddr 1 (.tmp 16) (.tmp 17)), none⟩, ⟨(some 19), (.load false 1 (.tmp 18)), none⟩, ⟨(some 20), (.faddr 1 (.tmp 5)), none⟩, ⟨(some 21), (.load false 1 (.tmp 20)), none⟩, ⟨(some 22), (.bin .add (.tmp 19) (.tmp 21)), none⟩, ⟨(some 23), (.iaddr 1 (.tmp 16) (.tmp 17)), none⟩]
abbrev A28r8 : List AIns := [⟨(some 24), (.mv (.tmp 4)), none⟩, ⟨(some 25), (.bin .gtr (.tmp 24) (.cst (.int .i64 0))), none⟩]
abbrev A28d9 : List AIns := [⟨(some 26), (.mv (.tmp 3)), none⟩, ⟨(some 27), (.faddr 0 (.tmp 5)), none⟩, ⟨(some 28), (.load false 1 (.tmp 27)), none⟩, ⟨(some 29), (.iaddr 1 (.tmp 26) (.tmp 28)), none⟩, ⟨(some 30), (.load false 1 (.tmp 29)), none⟩, ⟨(some 31), (.faddr 1 (.tmp 5)), none⟩, ⟨(some 32), (.load false 1 (.tmp 31)), none⟩, ⟨(some 33), (.bin .sub (.tmp 30) (.tmp 32)), none⟩, ⟨(some 34), (.iaddr 1 (.tmp 26) (.tmp 28)), none⟩, ⟨none, (.store 1 (.tmp 34) (.tmp 33)), none⟩]
abbrev A28d9p : List AIns := [⟨(some 26), (.mv (.tmp 3)), none⟩, ⟨(some 27), (.faddr 0 (.tmp 5)), none⟩, ⟨(some 28), (.load false 1 (.tmp 27)), none⟩, ⟨(some 29), (.iaddr 1 (.tmp 26) (.tmp 28)), none⟩, ⟨(some 30), (.load false 1 (.tmp 29)), none⟩, ⟨(some 31), (.faddr 1 (.tmp 5)), none⟩, ⟨(some 32), (.load false 1 (.tmp 31)), none⟩, ⟨(some 33), (.bin .sub (.tmp 30) (.tmp 32)), none⟩, ⟨(some 34), (.iaddr 1 (.tmp 26) (.tmp 28)), none⟩]
abbrev A28c10 : ACode := (.dreg A28d9 [[], [], [1], [0, 1, 2], [0, 1, 2, 3], [], [5], [0, 1, 2, 3, 4, 5, 6], [0, 1, 2, 3, 4, 5, 6, 7], [0, 1, 2, 3, 4, 5, 6, 7, 8]] [3, 9, 10, 11])
abbrev A28c11 : ACode := (.seq (.reg A28r6 [3, 4, 5, 9, 10, 11]) (.seq (.dreg A28d7 [[], [], [0, 1], [0, 1, 2], [], [4], [0, 1, 2, 3, 4, 5], [0, 1, 2, 3, 4, 5, 6], [0, 1, 2, 3, 4, 5, 6, 7]] [3, 4, 5, 9, 10, 11]) (.seq (.reg A28r8 [3, 5, 9, 10, 11, 25]) (.cond (.tmp 25) [3, 5, 9, 10, 11] A28c10 [3, 9, 10, 11] .skip))))
abbrev A28r12 : List AIns := [⟨(some 35), (.bin .add (.tmp 11) (.cst (.int .i64 1))), none⟩, ⟨(some 11), (.mv (.tmp 35)), none⟩]
abbrev A28l4 : ACode := (.seq (.reg A28r5 [3, 9, 10, 11, 12]) (.seq (.cond (.tmp 12) [3, 9, 10, 11] .skip [3] (.exit 0)) (.seq (.block 1 A28c11) (.reg A28r12 [3, 9, 10, 11]))))
abbrev A28r13 : List AIns := [⟨(some 36), (.mv (.tmp 3)), none⟩, ⟨(some 2), (.mv (.tmp 36)), none⟩]
def A28 : AFun := ⟨37, 1, [(.tmp 2)], (.seq (.reg A28r1 [0]) (.seq (.reg A28r2 [0, 3]) (.seq (.seq (.reg A28r3 [3, 9, 10, 11]) (.block 0 (.loop A28l4))) (.seq (.reg A28r13 [2]) .ret))))⟩
theorem A28c : compF Try.prog Try.f28 = some A28 := by kernel_rfl
theorem A28k : Callable Try.prog 28 := fun a w => Try.call28 a w
theorem A28p {ds : List D} {r : D} (hl : ds.length ≤ A28.nt) (hw : W Try.prog A28.code (Fin A28.results r) ⟨argEnv 0 ds, fun _ => none⟩) : PCon Try.prog 28 ds r := pcon_of_W mixed Try.func28 A28k A28c hl hw
/- estovers/accounts.in -/
abbrev A29r1 : List AIns := [⟨(some 2), (.mv (.cst (.bool false))), none⟩]
abbrev A29r2 : List AIns := [⟨(some 3), (.mv (.tmp 0)), none⟩, ⟨(some 4), (.bin .geq (.tmp 3) (.cst (.int .i64 0))), none⟩, ⟨(some 5), (.mv (.tmp 4)), none⟩, ⟨(some 6), (.mv (.tmp 0)), (some (5, true))⟩, ⟨(some 7), (.bin .leq (.tmp 6) (.cst (.int .i64 1048576))), (some (5, true))⟩, ⟨(some 8), (.pick (.tmp 5) (.tmp 7) (.cst (.bool false))), none⟩, ⟨(some 2), (.mv (.tmp 8)), none⟩]
def A29 : AFun := ⟨9, 1, [(.tmp 2)], (.seq (.reg A29r1 [0]) (.seq (.reg A29r2 [2]) .ret))⟩
theorem A29c : compF Try.prog Try.f29 = some A29 := by kernel_rfl
theorem A29k : Callable Try.prog 29 := fun a w => Try.call29 a w
theorem A29p {ds : List D} {r : D} (hl : ds.length ≤ A29.nt) (hw : W Try.prog A29.code (Fin A29.results r) ⟨argEnv 0 ds, fun _ => none⟩) : PCon Try.prog 29 ds r := pcon_of_W mixed Try.func29 A29k A29c hl hw
/- slices.IndexFunc[[]estovers/api.Account,estovers/api.Account] -/
abbrev A30r1 : List AIns := [⟨(some 4), (.mv (.cst (.int .i64 0))), none⟩]
abbrev A30r2 : List AIns := [⟨(some 6), (.mv (.tmp 0)), none⟩, ⟨(some 7), (.len (.tmp 6)), none⟩, ⟨(some 8), (.mv (.cst (.int .i64 0))), none⟩]
abbrev A30r4 : List AIns := [⟨(some 9), (.bin .lss (.tmp 8) (.tmp 7)), none⟩]
abbrev A30r5 : List AIns := [⟨(some 10), (.mv (.tmp 8)), none⟩, ⟨(some 5), (.mv (.tmp 10)), none⟩]
abbrev A30r6 : List AIns := [⟨(some 11), (.mv (.tmp 1)), none⟩, ⟨(some 12), (.mv (.tmp 0)), none⟩, ⟨(some 13), (.mv (.tmp 5)), none⟩, ⟨(some 14), (.iaddr 5 (.tmp 12) (.tmp 13)), none⟩, ⟨(some 15), (.load true 5 (.tmp 14)), none⟩, ⟨(some 16), (.call (.tmp 11) [(.tmp 15)]), none⟩]
abbrev A30r7 : List AIns := [⟨(some 17), (.mv (.tmp 5)), none⟩, ⟨(some 4), (.mv (.tmp 17)), none⟩]
abbrev A30c8 : ACode := (.seq (.reg A30r5 [0, 1, 5, 7, 8]) (.seq (.reg A30r6 [0, 1, 5, 7, 8, 16]) (.cond (.tmp 16) [5] (.seq (.reg A30r7 [4]) .ret) [0, 1, 7, 8] .skip)))
abbrev A30r9 : List AIns := [⟨(some 18), (.bin .add (.tmp 8) (.cst (.int .i64 1))), none⟩, ⟨(some 8), (.mv (.tmp 18)), none⟩]
abbrev A30l3 : ACode := (.seq (.reg A30r4 [0, 1, 7, 8, 9]) (.seq (.cond (.tmp 9) [0, 1, 7, 8] .skip [] (.exit 0)) (.seq (.block 1 A30c8) (.reg A30r9 [0, 1, 7, 8]))))
abbrev A30r10 : List AIns := [⟨(some 4), (.mv (.cst (.int .i64 (-1)))), none⟩]
def A30 : AFun := ⟨19, 2, [(.tmp 4)], (.seq (.reg A30r1 [0, 1]) (.seq (.seq (.reg A30r2 [0, 1, 7, 8]) (.block 0 (.loop A30l3))) (.seq (.reg A30r10 [4]) .ret)))⟩
theorem A30c : compF Try.prog Try.f30 = some A30 := by kernel_rfl
theorem A30k : Callable Try.prog 30 := fun a w => Try.call30 a w
theorem A30p {ds : List D} {r : D} (hl : ds.length ≤ A30.nt) (hw : W Try.prog A30.code (Fin A30.results r) ⟨argEnv 0 ds, fun _ => none⟩) : PCon Try.prog 30 ds r := pcon_of_W mixed Try.func30 A30k A30c hl hw
end Go.Proofs.Ytnngcjipfdejcaa
