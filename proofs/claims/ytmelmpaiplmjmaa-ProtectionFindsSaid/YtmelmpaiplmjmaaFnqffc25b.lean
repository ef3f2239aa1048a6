/- The compiled functions of this seat, in named pieces, each with the proof that it is what the compiler gives of the model's code. -/
import Derived.Test.YtmelmpaiplmjmaaAmS
import Derived.Test.YtmelmpaiplmjmaaRows
set_option linter.unusedSimpArgs false
set_option linter.unusedVariables false
namespace Go.Proofs.Ytmelmpaiplmjmaa
open Go.AM
set_option maxRecDepth 100000
theorem mixed : Try.prog.follows .mixedOrders = true := by kernel_rfl
/- estovers/estoverslaw20.ProtectionShares -/
/- estovers/estoverslaw20.ProtectionGuards -/
/- estovers/estoverslaw20.ProtectionSums -/
/- estovers/estoverslaw20.ProtectionFinds -/
abbrev A6r1 : List AIns := [⟨(some 6), (.mv (.cst (.bool false))), none⟩]
abbrev A6r2 : List AIns := [⟨(some 7), (.call (.fnc 11) []), none⟩, ⟨(some 8), (.un .not (.tmp 7)), none⟩, ⟨(some 9), (.mv (.tmp 8)), none⟩, ⟨(some 10), (.mv (.tmp 0)), (some (9, false))⟩, ⟨(some 11), (.mv (.tmp 1)), (some (9, false))⟩, ⟨(some 12), (.call (.fnc 12) [(.tmp 10), (.tmp 11)]), (some (9, false))⟩, ⟨(some 13), (.un .not (.tmp 12)), (some (9, false))⟩, ⟨(some 14), (.pick (.tmp 9) (.cst (.bool true)) (.tmp 13)), none⟩]
abbrev A6r3 : List AIns := [⟨(some 15), (.call (.fnc 11) []), none⟩, ⟨(some 6), (.mv (.tmp 15)), none⟩]
abbrev A6r4 : List AIns := [⟨(some 16), (.mv (.tmp 0)), none⟩, ⟨(some 17), (.mv (.tmp 1)), none⟩, ⟨(some 18), (.mv (.tmp 2)), none⟩, ⟨(some 19), (.call (.fnc 22) [(.tmp 16), (.tmp 17), (.tmp 18)]), none⟩, ⟨(some 20), (.mv (.tmp 0)), none⟩, ⟨(some 21), (.mv (.tmp 1)), none⟩, ⟨(some 22), (.mv (.tmp 2)), none⟩, ⟨(some 23), (.call (.fnc 23) [(.tmp 20), (.tmp 21), (.tmp 22)]), none⟩, ⟨(some 24), (.bin .eql (.tmp 19) (.tmp 23)), none⟩, ⟨(some 6), (.mv (.tmp 24)), none⟩]
def A6 : AFun := ⟨25, 3, [(.tmp 6)], (.seq (.reg A6r1 [0, 1, 2]) (.seq (.seq (.reg A6r2 [0, 1, 2, 14]) (.cond (.tmp 14) [] (.seq (.reg A6r3 [6]) .ret) [0, 1, 2] .skip)) (.seq (.reg A6r4 [6]) .ret)))⟩
theorem A6c : compF Try.prog Try.f6 = some A6 := by kernel_rfl
theorem A6k : Callable Try.prog 6 := fun a w => Try.call6 a w
theorem A6p {ds : List D} {r : D} (hl : ds.length ≤ A6.nt) (hw : W Try.prog A6.code (Fin A6.results r) ⟨argEnv 0 ds, fun _ => none⟩) : PCon Try.prog 6 ds r := pcon_of_W mixed Try.func6 A6k A6c hl hw
/- estovers/estoverslaw20.ProtectionAdds -/
/- estovers/estoverslaw20.ProtectionOpens -/
/- estovers/estoverslaw20.ProtectionWider -/
/- estovers/estoverslaw20.ProtectionMoves -/
/- estovers/estoverslaw20.awake -/
abbrev A11r1 : List AIns := [⟨(some 0), (.mv (.cst (.bool false))), none⟩]
abbrev A11r2 : List AIns := [⟨(some 8), (.call (.fnc 27) []), none⟩, ⟨(some 1), (.mv (.tmp 8)), none⟩]
abbrev A11r3 : List AIns := [⟨(some 9), (.mkslice 1 8 [(.int .i64 0)] (.cst (.int .i64 4)) (.cst (.int .i64 4))), none⟩, ⟨(some 2), (.mv (.tmp 9)), none⟩]
abbrev A11r4 : List AIns := [⟨(some 11), (.mv (.tmp 1)), none⟩, ⟨(some 12), (.call (.fnc 13) [(.tmp 11)]), none⟩, ⟨(some 10), (.mv (.tmp 12)), none⟩, ⟨(some 13), (.extract 0 (.tmp 10)), none⟩, ⟨(some 14), (.extract 1 (.tmp 10)), none⟩, ⟨(some 3), (.mv (.tmp 13)), none⟩, ⟨(some 4), (.mv (.tmp 14)), none⟩]
abbrev A11r5 : List AIns := [⟨(some 16), (.mv (.tmp 1)), none⟩, ⟨(some 17), (.call (.fnc 18) [(.tmp 16), (.cst (.int .i64 7))]), none⟩, ⟨(some 15), (.mv (.tmp 17)), none⟩, ⟨(some 18), (.extract 0 (.tmp 15)), none⟩, ⟨(some 19), (.extract 1 (.tmp 15)), none⟩, ⟨(some 5), (.mv (.tmp 18)), none⟩, ⟨(some 6), (.mv (.tmp 19)), none⟩]
abbrev A11r6 : List AIns := [⟨(some 20), (.mv (.tmp 4)), none⟩, ⟨(some 21), (.bin .neq (.tmp 20) (.cst (.int .i64 0))), none⟩, ⟨(some 22), (.mv (.tmp 21)), none⟩, ⟨(some 23), (.mv (.tmp 3)), (some (22, false))⟩, ⟨(some 24), (.len (.tmp 23)), (some (22, false))⟩, ⟨(some 25), (.bin .neq (.tmp 24) (.cst (.int .i64 4))), (some (22, false))⟩, ⟨(some 26), (.pick (.tmp 22) (.cst (.bool true)) (.tmp 25)), none⟩, ⟨(some 27), (.mv (.tmp 26)), none⟩, ⟨(some 28), (.mv (.tmp 3)), (some (27, false))⟩, ⟨(some 29), (.iaddr 1 (.tmp 28) (.cst (.int .i64 0))), (some (27, false))⟩, ⟨(some 30), (.load false 1 (.tmp 29)), (some (27, false))⟩, ⟨(some 31), (.bin .neq (.tmp 30) (.cst (.int .i64 10))), (some (27, false))⟩, ⟨(some 32), (.pick (.tmp 27) (.cst (.bool true)) (.tmp 31)), none⟩, ⟨(some 33), (.mv (.tmp 32)), none⟩, ⟨(some 34), (.mv (.tmp 3)), (some (33, false))⟩, ⟨(some 35), (.iaddr 1 (.tmp 34) (.cst (.int .i64 1))), (some (33, false))⟩, ⟨(some 36), (.load false 1 (.tmp 35)), (some (33, false))⟩, ⟨(some 37), (.bin .neq (.tmp 36) (.cst (.int .i64 4))), (some (33, false))⟩, ⟨(some 38), (.pick (.tmp 33) (.cst (.bool true)) (.tmp 37)), none⟩, ⟨(some 39), (.mv (.tmp 38)), none⟩, ⟨(some 40), (.mv (.tmp 3)), (some (39, false))⟩, ⟨(some 41), (.iaddr 1 (.tmp 40) (.cst (.int .i64 3))), (some (39, false))⟩, ⟨(some 42), (.load false 1 (.tmp 41)), (some (39, false))⟩, ⟨(some 43), (.bin .neq (.tmp 42) (.cst (.int .i64 3))), (some (39, false))⟩, ⟨(some 44), (.pick (.tmp 39) (.cst (.bool true)) (.tmp 43)), none⟩, ⟨(some 45), (.mv (.tmp 44)), none⟩, ⟨(some 46), (.mv (.tmp 6)), (some (45, false))⟩, ⟨(some 47), (.bin .neq (.tmp 46) (.cst (.int .i64 0))), (some (45, false))⟩, ⟨(some 48), (.pick (.tmp 45) (.cst (.bool true)) (.tmp 47)), none⟩, ⟨(some 49), (.mv (.tmp 48)), none⟩, ⟨(some 50), (.mv (.tmp 5)), (some (49, false))⟩, ⟨(some 51), (.bin .neq (.tmp 50) (.cst (.int .i64 0))), (some (49, false))⟩, ⟨(some 52), (.pick (.tmp 49) (.cst (.bool true)) (.tmp 51)), none⟩]
abbrev A11r7 : List AIns := [⟨(some 0), (.mv (.cst (.bool false))), none⟩]
abbrev A11r8 : List AIns := [⟨(some 53), (.mv (.tmp 1)), none⟩, ⟨(some 54), (.buildS 1 [(.int .i64 0)] 4 [(0, (1, (.cst (.int .i64 0)))), (1, (1, (.cst (.int .i64 0)))), (2, (1, (.cst (.int .i64 0)))), (3, (1, (.cst (.int .i64 2))))]), none⟩, ⟨(some 55), (.call (.fnc 20) [(.tmp 53), (.tmp 54)]), none⟩, ⟨(some 7), (.mv (.tmp 55)), none⟩]
abbrev A11r9 : List AIns := [⟨(some 56), (.mv (.tmp 7)), none⟩, ⟨(some 57), (.len (.tmp 56)), none⟩, ⟨(some 58), (.bin .neq (.tmp 57) (.cst (.int .i64 4))), none⟩, ⟨(some 59), (.mv (.tmp 58)), none⟩, ⟨(some 60), (.mv (.tmp 7)), (some (59, false))⟩, ⟨(some 61), (.iaddr 1 (.tmp 60) (.cst (.int .i64 1))), (some (59, false))⟩, ⟨(some 62), (.load false 1 (.tmp 61)), (some (59, false))⟩, ⟨(some 63), (.bin .neq (.tmp 62) (.cst (.int .i64 2))), (some (59, false))⟩, ⟨(some 64), (.pick (.tmp 59) (.cst (.bool true)) (.tmp 63)), none⟩, ⟨(some 65), (.mv (.tmp 64)), none⟩, ⟨(some 66), (.mv (.tmp 7)), (some (65, false))⟩, ⟨(some 67), (.iaddr 1 (.tmp 66) (.cst (.int .i64 2))), (some (65, false))⟩, ⟨(some 68), (.load false 1 (.tmp 67)), (some (65, false))⟩, ⟨(some 69), (.bin .neq (.tmp 68) (.cst (.int .i64 0))), (some (65, false))⟩, ⟨(some 70), (.pick (.tmp 65) (.cst (.bool true)) (.tmp 69)), none⟩]
abbrev A11r10 : List AIns := [⟨(some 0), (.mv (.cst (.bool false))), none⟩]
abbrev A11r11 : List AIns := [⟨(some 71), (.mv (.tmp 1)), none⟩, ⟨(some 72), (.mv (.tmp 2)), none⟩, ⟨(some 73), (.call (.fnc 16) [(.tmp 71), (.tmp 72), (.cst (.int .i64 2)), (.cst (.int .i64 (-1))), (.cst (.bool false))]), none⟩, ⟨(some 74), (.mv (.tmp 73)), none⟩, ⟨(some 75), (.mv (.tmp 1)), (some (74, true))⟩, ⟨(some 76), (.mv (.tmp 2)), (some (74, true))⟩, ⟨(some 77), (.call (.fnc 16) [(.tmp 75), (.tmp 76), (.cst (.int .i64 2)), (.cst (.int .i64 2)), (.cst (.bool false))]), (some (74, true))⟩, ⟨(some 78), (.un .not (.tmp 77)), (some (74, true))⟩, ⟨(some 79), (.pick (.tmp 74) (.tmp 78) (.cst (.bool false))), none⟩, ⟨(some 80), (.mv (.tmp 79)), none⟩, ⟨(some 81), (.mv (.tmp 1)), (some (80, true))⟩, ⟨(some 82), (.mv (.tmp 2)), (some (80, true))⟩, ⟨(some 83), (.call (.fnc 16) [(.tmp 81), (.tmp 82), (.cst (.int .i64 3)), (.cst (.int .i64 (-1))), (.cst (.bool false))]), (some (80, true))⟩, ⟨(some 84), (.un .not (.tmp 83)), (some (80, true))⟩, ⟨(some 85), (.pick (.tmp 80) (.tmp 84) (.cst (.bool false))), none⟩, ⟨(some 86), (.mv (.tmp 85)), none⟩, ⟨(some 87), (.mv (.tmp 1)), (some (86, true))⟩, ⟨(some 88), (.mv (.tmp 2)), (some (86, true))⟩, ⟨(some 89), (.call (.fnc 22) [(.tmp 87), (.tmp 88), (.cst (.int .i64 (-1)))]), (some (86, true))⟩, ⟨(some 90), (.bin .eql (.tmp 89) (.cst (.int .i64 1))), (some (86, true))⟩, ⟨(some 91), (.pick (.tmp 86) (.tmp 90) (.cst (.bool false))), none⟩, ⟨(some 0), (.mv (.tmp 91)), none⟩]
def A11 : AFun := ⟨92, 0, [(.tmp 0)], (.seq (.reg A11r1 []) (.seq (.reg A11r2 [1]) (.seq (.reg A11r3 [1, 2]) (.seq (.reg A11r4 [1, 2, 3, 4]) (.seq (.reg A11r5 [1, 2, 3, 4, 5, 6]) (.seq (.seq (.reg A11r6 [1, 2, 52]) (.cond (.tmp 52) [] (.seq (.reg A11r7 [0]) .ret) [1, 2] .skip)) (.seq (.reg A11r8 [1, 2, 7]) (.seq (.seq (.reg A11r9 [1, 2, 70]) (.cond (.tmp 70) [] (.seq (.reg A11r10 [0]) .ret) [1, 2] .skip)) (.seq (.reg A11r11 [0]) .ret)))))))))⟩
theorem A11c : compF Try.prog Try.f11 = some A11 := by kernel_rfl
theorem A11k : Callable Try.prog 11 := fun a w => Try.call11 a w
theorem A11p {ds : List D} {r : D} (hl : ds.length ≤ A11.nt) (hw : W Try.prog A11.code (Fin A11.results r) ⟨argEnv 0 ds, fun _ => none⟩) : PCon Try.prog 11 ds r := pcon_of_W mixed Try.func11 A11k A11c hl hw
/- estovers/estoversref20.Few -/
abbrev A12r1 : List AIns := [⟨(some 4), (.mv (.cst (.bool false))), none⟩]
abbrev A12r2 : List AIns := [⟨(some 5), (.mv (.tmp 0)), none⟩, ⟨(some 6), (.len (.tmp 5)), none⟩, ⟨(some 7), (.bin .leq (.tmp 6) (.cst (.int .i64 40))), none⟩, ⟨(some 8), (.mv (.tmp 7)), none⟩, ⟨(some 9), (.mv (.tmp 1)), (some (8, true))⟩, ⟨(some 10), (.len (.tmp 9)), (some (8, true))⟩, ⟨(some 11), (.bin .leq (.tmp 10) (.cst (.int .i64 40))), (some (8, true))⟩, ⟨(some 12), (.pick (.tmp 8) (.tmp 11) (.cst (.bool false))), none⟩, ⟨(some 4), (.mv (.tmp 12)), none⟩]
def A12 : AFun := ⟨13, 2, [(.tmp 4)], (.seq (.reg A12r1 [0, 1]) (.seq (.reg A12r2 [4]) .ret))⟩
theorem A12c : compF Try.prog Try.f12 = some A12 := by kernel_rfl
theorem A12k : Callable Try.prog 12 := fun a w => Try.call12 a w
theorem A12p {ds : List D} {r : D} (hl : ds.length ≤ A12.nt) (hw : W Try.prog A12.code (Fin A12.results r) ⟨argEnv 0 ds, fun _ => none⟩) : PCon Try.prog 12 ds r := pcon_of_W mixed Try.func12 A12k A12c hl hw
/- estovers/protection.Effective -/
abbrev A13r1 : List AIns := [⟨(some 1), (.box (.tmp 0)), none⟩, ⟨(some 2), (.mv (.cst .nil)), none⟩, ⟨(some 3), (.mv (.cst (.int .i64 0))), none⟩]
abbrev A13r2 : List AIns := [⟨(some 12), (.load false 1 (.tmp 1)), none⟩, ⟨(some 13), (.call (.fnc 28) [(.tmp 12)]), none⟩, ⟨(some 4), (.mv (.tmp 13)), none⟩]
abbrev A13r3 : List AIns := [⟨(some 14), (.mv (.tmp 4)), none⟩, ⟨(some 15), (.bin .neq (.tmp 14) (.cst (.int .i64 0))), none⟩]
abbrev A13r4 : List AIns := [⟨(some 16), (.mv (.tmp 4)), none⟩, ⟨(some 2), (.mv (.cst .nil)), none⟩, ⟨(some 3), (.mv (.tmp 16)), none⟩]
abbrev A13r5 : List AIns := [⟨(some 17), (.mkfn 29 [] [(.tmp 1)]), none⟩, ⟨(some 5), (.mv (.tmp 17)), none⟩]
abbrev A13r6 : List AIns := [⟨(some 18), (.load false 1 (.tmp 1)), none⟩, ⟨(some 19), (.len (.tmp 18)), none⟩, ⟨(some 20), (.mkslice 1 8 [(.int .i64 0)] (.tmp 19) (.tmp 19)), none⟩, ⟨(some 6), (.mv (.tmp 20)), none⟩]
abbrev A13r7 : List AIns := [⟨(some 21), (.load false 1 (.tmp 1)), none⟩, ⟨(some 22), (.len (.tmp 21)), none⟩, ⟨(some 23), (.bin .sub (.tmp 22) (.cst (.int .i64 1))), none⟩, ⟨(some 7), (.mv (.tmp 23)), none⟩]
abbrev A13r9 : List AIns := [⟨(some 24), (.mv (.tmp 7)), none⟩, ⟨(some 25), (.bin .gtr (.tmp 24) (.cst (.int .i64 0))), none⟩]
abbrev A13d10 : List AIns := [⟨(some 28), (.mv (.tmp 6)), none⟩, ⟨(some 29), (.load false 1 (.tmp 1)), none⟩, ⟨(some 30), (.mv (.tmp 7)), none⟩, ⟨(some 31), (.iaddr 5 (.tmp 29) (.tmp 30)), none⟩, ⟨(some 32), (.faddr 0 (.tmp 31)), none⟩, ⟨(some 33), (.load false 1 (.tmp 32)), none⟩, ⟨(some 34), (.iaddr 1 (.tmp 28) (.tmp 33)), none⟩, ⟨(some 35), (.load false 1 (.tmp 34)), none⟩, ⟨(some 36), (.mv (.tmp 5)), none⟩, ⟨(some 37), (.mv (.tmp 7)), none⟩, ⟨(some 38), (.call (.tmp 36) [(.tmp 37)]), none⟩, ⟨(some 39), (.bin .add (.tmp 35) (.tmp 38)), none⟩, ⟨(some 40), (.iaddr 1 (.tmp 28) (.tmp 33)), none⟩, ⟨none, (.store 1 (.tmp 40) (.tmp 39)), none⟩]
abbrev A13d10p : List AIns := [⟨(some 28), (.mv (.tmp 6)), none⟩, ⟨(some 29), (.load false 1 (.tmp 1)), none⟩, ⟨(some 30), (.mv (.tmp 7)), none⟩, ⟨(some 31), (.iaddr 5 (.tmp 29) (.tmp 30)), none⟩, ⟨(some 32), (.faddr 0 (.tmp 31)), none⟩, ⟨(some 33), (.load false 1 (.tmp 32)), none⟩, ⟨(some 34), (.iaddr 1 (.tmp 28) (.tmp 33)), none⟩, ⟨(some 35), (.load false 1 (.tmp 34)), none⟩, ⟨(some 36), (.mv (.tmp 5)), none⟩, ⟨(some 37), (.mv (.tmp 7)), none⟩, ⟨(some 38), (.call (.tmp 36) [(.tmp 37)]), none⟩, ⟨(some 39), (.bin .add (.tmp 35) (.tmp 38)), none⟩, ⟨(some 40), (.iaddr 1 (.tmp 28) (.tmp 33)), none⟩]
abbrev A13c11 : ACode := (.dreg A13d10 [[], [], [], [1, 2], [1, 2, 3], [1, 2, 3, 4], [0, 1, 2, 3, 4, 5], [0, 1, 2, 3, 4, 5, 6], [], [], [8, 9], [0, 1, 2, 3, 4, 5, 6, 7, 8, 9, 10], [0, 1, 2, 3, 4, 5, 6, 7, 8, 9, 10, 11], [0, 1, 2, 3, 4, 5, 6, 7, 8, 9, 10, 11, 12]] [1, 5, 6, 7])
abbrev A13r12 : List AIns := [⟨(some 26), (.mv (.tmp 7)), none⟩, ⟨(some 27), (.bin .sub (.tmp 26) (.cst (.int .i64 1))), none⟩, ⟨(some 7), (.mv (.tmp 27)), none⟩]
abbrev A13l8 : ACode := (.seq (.seq (.reg A13r9 [1, 5, 6, 7, 25]) (.cond (.tmp 25) [1, 5, 6, 7] .skip [1, 5, 6] (.exit 0))) (.seq (.block 1 A13c11) (.reg A13r12 [1, 5, 6, 7])))
abbrev A13r13 : List AIns := [⟨(some 41), (.load false 1 (.tmp 1)), none⟩, ⟨(some 42), (.len (.tmp 41)), none⟩, ⟨(some 43), (.mkslice 1 8 [(.int .i64 0)] (.tmp 42) (.tmp 42)), none⟩, ⟨(some 8), (.mv (.tmp 43)), none⟩]
abbrev A13r14 : List AIns := [⟨(some 44), (.mv (.tmp 8)), none⟩, ⟨(some 45), (.load false 1 (.tmp 1)), none⟩, ⟨(some 46), (.iaddr 5 (.tmp 45) (.cst (.int .i64 0))), none⟩, ⟨(some 47), (.faddr 1 (.tmp 46)), none⟩, ⟨(some 48), (.load false 1 (.tmp 47)), none⟩, ⟨(some 49), (.iaddr 1 (.tmp 44) (.cst (.int .i64 0))), none⟩, ⟨none, (.store 1 (.tmp 49) (.tmp 48)), none⟩]
abbrev A13r15 : List AIns := [⟨(some 9), (.mv (.cst (.int .i64 1))), none⟩]
abbrev A13r17 : List AIns := [⟨(some 50), (.mv (.tmp 9)), none⟩, ⟨(some 51), (.load false 1 (.tmp 1)), none⟩, ⟨(some 52), (.len (.tmp 51)), none⟩, ⟨(some 53), (.bin .lss (.tmp 50) (.tmp 52)), none⟩]
abbrev A13d18 : List AIns := [⟨(some 56), (.mv (.tmp 8)), none⟩, ⟨(some 57), (.load false 1 (.tmp 1)), none⟩, ⟨(some 58), (.mv (.tmp 9)), none⟩, ⟨(some 59), (.iaddr 5 (.tmp 57) (.tmp 58)), none⟩, ⟨(some 60), (.faddr 0 (.tmp 59)), none⟩, ⟨(some 61), (.load false 1 (.tmp 60)), none⟩, ⟨(some 62), (.iaddr 1 (.tmp 56) (.tmp 61)), none⟩, ⟨(some 63), (.load false 1 (.tmp 62)), none⟩, ⟨(some 64), (.mv (.tmp 6)), none⟩, ⟨(some 65), (.load false 1 (.tmp 1)), none⟩, ⟨(some 66), (.mv (.tmp 9)), none⟩, ⟨(some 67), (.iaddr 5 (.tmp 65) (.tmp 66)), none⟩, ⟨(some 68), (.faddr 0 (.tmp 67)), none⟩, ⟨(some 69), (.load false 1 (.tmp 68)), none⟩, ⟨(some 70), (.iaddr 1 (.tmp 64) (.tmp 69)), none⟩, ⟨(some 71), (.load false 1 (.tmp 70)), none⟩, ⟨(some 10), (.mv (.tmp 63)), none⟩, ⟨(some 11), (.mv (.tmp 71)), none⟩]
abbrev A13r19 : List AIns := [⟨(some 72), (.mv (.tmp 8)), none⟩, ⟨(some 73), (.mv (.tmp 9)), none⟩, ⟨(some 74), (.mv (.tmp 5)), none⟩, ⟨(some 75), (.mv (.tmp 9)), none⟩, ⟨(some 76), (.call (.tmp 74) [(.tmp 75)]), none⟩, ⟨(some 77), (.iaddr 1 (.tmp 72) (.tmp 73)), none⟩, ⟨none, (.store 1 (.tmp 77) (.tmp 76)), none⟩]
abbrev A13r20 : List AIns := [⟨(some 78), (.mv (.tmp 11)), none⟩, ⟨(some 79), (.mv (.tmp 10)), none⟩, ⟨(some 80), (.bin .gtr (.tmp 78) (.tmp 79)), none⟩]
abbrev A13r21 : List AIns := [⟨(some 81), (.mv (.tmp 8)), none⟩, ⟨(some 82), (.mv (.tmp 9)), none⟩, ⟨(some 83), (.mv (.tmp 8)), none⟩, ⟨(some 84), (.mv (.tmp 9)), none⟩, ⟨(some 85), (.iaddr 1 (.tmp 83) (.tmp 84)), none⟩, ⟨(some 86), (.load false 1 (.tmp 85)), none⟩, ⟨(some 87), (.mv (.tmp 10)), none⟩, ⟨(some 88), (.bin .mul (.tmp 86) (.tmp 87)), none⟩, ⟨(some 89), (.mv (.tmp 11)), none⟩, ⟨(some 90), (.bin .quo (.tmp 88) (.tmp 89)), none⟩, ⟨(some 91), (.iaddr 1 (.tmp 81) (.tmp 82)), none⟩, ⟨none, (.store 1 (.tmp 91) (.tmp 90)), none⟩]
abbrev A13c22 : ACode := (.seq (.dreg A13d18 [[], [], [], [1, 2], [1, 2, 3], [1, 2, 3, 4], [0, 1, 2, 3, 4, 5], [0, 1, 2, 3, 4, 5, 6], [], [], [], [9, 10], [9, 10, 11], [9, 10, 11, 12], [8, 9, 10, 11, 12, 13], [8, 9, 10, 11, 12, 13, 14], [0, 1, 2, 3, 4, 5, 6, 7], [0, 1, 2, 3, 4, 5, 6, 7, 8, 9, 10, 11, 12, 13, 14, 15, 16]] [1, 5, 6, 8, 9, 10, 11]) (.seq (.reg A13r19 [1, 5, 6, 8, 9, 10, 11]) (.seq (.reg A13r20 [1, 5, 6, 8, 9, 10, 11, 80]) (.cond (.tmp 80) [1, 5, 6, 8, 9, 10, 11] (.reg A13r21 [1, 5, 6, 8, 9]) [1, 5, 6, 8, 9] .skip))))
abbrev A13r23 : List AIns := [⟨(some 54), (.mv (.tmp 9)), none⟩, ⟨(some 55), (.bin .add (.tmp 54) (.cst (.int .i64 1))), none⟩, ⟨(some 9), (.mv (.tmp 55)), none⟩]
abbrev A13l16 : ACode := (.seq (.seq (.reg A13r17 [1, 5, 6, 8, 9, 53]) (.cond (.tmp 53) [1, 5, 6, 8, 9] .skip [8] (.exit 2))) (.seq (.block 3 A13c22) (.reg A13r23 [1, 5, 6, 8, 9])))
abbrev A13r24 : List AIns := [⟨(some 92), (.mv (.tmp 8)), none⟩, ⟨(some 2), (.mv (.tmp 92)), none⟩, ⟨(some 3), (.mv (.cst (.int .i64 0))), none⟩]
def A13 : AFun := ⟨93, 1, [(.tmp 2), (.tmp 3)], (.seq (.reg A13r1 [1]) (.seq (.seq (.reg A13r2 [1, 4]) (.seq (.reg A13r3 [1, 4, 15]) (.cond (.tmp 15) [4] (.seq (.reg A13r4 [2, 3]) .ret) [1] .skip))) (.seq (.reg A13r5 [1, 5]) (.seq (.reg A13r6 [1, 5, 6]) (.seq (.seq (.reg A13r7 [1, 5, 6, 7]) (.block 0 (.loop A13l8))) (.seq (.reg A13r13 [1, 5, 6, 8]) (.seq (.reg A13r14 [1, 5, 6, 8]) (.seq (.seq (.reg A13r15 [1, 5, 6, 8, 9]) (.block 2 (.loop A13l16))) (.seq (.reg A13r24 [2, 3]) .ret)))))))))⟩
theorem A13c : compF Try.prog Try.f13 = some A13 := by kernel_rfl
theorem A13k : Callable Try.prog 13 := fun a w => Try.call13 a w
theorem A13p {ds : List D} {r : D} (hl : ds.length ≤ A13.nt) (hw : W Try.prog A13.code (Fin A13.results r) ⟨argEnv 0 ds, fun _ => none⟩) : PCon Try.prog 13 ds r := pcon_of_W mixed Try.func13 A13k A13c hl hw
/- estovers/estoversref20.Effective -/
/- estovers/estoversref20.Same -/
/- estovers/protection.Guarded -/
abbrev A16r1 : List AIns := [⟨(some 10), (.mv (.cst (.bool false))), none⟩]
abbrev A16r2 : List AIns := [⟨(some 16), (.mv (.tmp 0)), none⟩, ⟨(some 17), (.mv (.tmp 1)), none⟩, ⟨(some 18), (.call (.fnc 30) [(.tmp 16), (.tmp 17)]), none⟩, ⟨(some 19), (.un .not (.tmp 18)), none⟩, ⟨(some 20), (.mv (.tmp 19)), none⟩, ⟨(some 21), (.mv (.tmp 2)), (some (20, false))⟩, ⟨(some 22), (.bin .lss (.tmp 21) (.cst (.int .i64 0))), (some (20, false))⟩, ⟨(some 23), (.pick (.tmp 20) (.cst (.bool true)) (.tmp 22)), none⟩, ⟨(some 24), (.mv (.tmp 23)), none⟩, ⟨(some 25), (.mv (.tmp 2)), (some (24, false))⟩, ⟨(some 26), (.mv (.tmp 0)), (some (24, false))⟩, ⟨(some 27), (.len (.tmp 26)), (some (24, false))⟩, ⟨(some 28), (.bin .geq (.tmp 25) (.tmp 27)), (some (24, false))⟩, ⟨(some 29), (.pick (.tmp 24) (.cst (.bool true)) (.tmp 28)), none⟩, ⟨(some 30), (.mv (.tmp 29)), none⟩, ⟨(some 31), (.mv (.tmp 3)), (some (30, false))⟩, ⟨(some 32), (.bin .lss (.tmp 31) (.cst (.int .i64 (-1)))), (some (30, false))⟩, ⟨(some 33), (.pick (.tmp 30) (.cst (.bool true)) (.tmp 32)), none⟩, ⟨(some 34), (.mv (.tmp 33)), none⟩, ⟨(some 35), (.mv (.tmp 3)), (some (34, false))⟩, ⟨(some 36), (.mv (.tmp 0)), (some (34, false))⟩, ⟨(some 37), (.len (.tmp 36)), (some (34, false))⟩, ⟨(some 38), (.bin .geq (.tmp 35) (.tmp 37)), (some (34, false))⟩, ⟨(some 39), (.pick (.tmp 34) (.cst (.bool true)) (.tmp 38)), none⟩]
abbrev A16r3 : List AIns := [⟨(some 10), (.mv (.cst (.bool true))), none⟩]
abbrev A16r4 : List AIns := [⟨(some 40), (.mv (.tmp 0)), none⟩, ⟨(some 41), (.mv (.tmp 1)), none⟩, ⟨(some 42), (.call (.fnc 31) [(.tmp 40), (.tmp 41)]), none⟩, ⟨(some 11), (.mv (.tmp 42)), none⟩]
abbrev A16r5 : List AIns := [⟨(some 43), (.mv (.tmp 3)), none⟩, ⟨(some 44), (.mima true [(.tmp 43), (.cst (.int .i64 0))]), none⟩, ⟨(some 12), (.mv (.tmp 44)), none⟩]
abbrev A16r6 : List AIns := [⟨(some 13), (.mv (.cst (.bool false))), none⟩]
abbrev A16r7 : List AIns := [⟨(some 45), (.mv (.tmp 2)), none⟩, ⟨(some 14), (.mv (.tmp 45)), none⟩]
abbrev A16r9 : List AIns := [⟨(some 46), (.mv (.tmp 14)), none⟩, ⟨(some 47), (.mv (.tmp 12)), none⟩, ⟨(some 48), (.bin .gtr (.tmp 46) (.tmp 47)), none⟩]
abbrev A16r10 : List AIns := [⟨(some 49), (.mv (.tmp 0)), none⟩, ⟨(some 50), (.mv (.tmp 14)), none⟩, ⟨(some 51), (.iaddr 5 (.tmp 49) (.tmp 50)), none⟩, ⟨(some 52), (.faddr 2 (.tmp 51)), none⟩, ⟨(some 53), (.load false 1 (.tmp 52)), none⟩, ⟨(some 15), (.mv (.tmp 53)), none⟩]
abbrev A16r11 : List AIns := [⟨(some 54), (.mv (.tmp 4)), none⟩]
abbrev A16r12 : List AIns := [⟨(some 55), (.mv (.tmp 0)), none⟩, ⟨(some 56), (.mv (.tmp 14)), none⟩, ⟨(some 57), (.iaddr 5 (.tmp 55) (.tmp 56)), none⟩, ⟨(some 58), (.faddr 3 (.tmp 57)), none⟩, ⟨(some 59), (.load false 1 (.tmp 58)), none⟩, ⟨(some 15), (.mv (.tmp 59)), none⟩]
abbrev A16d13 : List AIns := [⟨(some 60), (.mv (.tmp 13)), none⟩, ⟨(some 61), (.mv (.tmp 60)), none⟩, ⟨(some 62), (.mv (.tmp 0)), (some (61, false))⟩, ⟨(some 63), (.mv (.tmp 14)), (some (61, false))⟩, ⟨(some 64), (.iaddr 5 (.tmp 62) (.tmp 63)), (some (61, false))⟩, ⟨(some 65), (.faddr 1 (.tmp 64)), (some (61, false))⟩, ⟨(some 66), (.load false 1 (.tmp 65)), (some (61, false))⟩, ⟨(some 67), (.mv (.tmp 11)), (some (61, false))⟩, ⟨(some 68), (.mv (.tmp 14)), (some (61, false))⟩, ⟨(some 69), (.iaddr 1 (.tmp 67) (.tmp 68)), (some (61, false))⟩, ⟨(some 70), (.load false 1 (.tmp 69)), (some (61, false))⟩, ⟨(some 71), (.bin .sub (.tmp 66) (.tmp 70)), (some (61, false))⟩, ⟨(some 72), (.mv (.tmp 15)), (some (61, false))⟩, ⟨(some 73), (.bin .leq (.tmp 71) (.tmp 72)), (some (61, false))⟩, ⟨(some 74), (.pick (.tmp 61) (.cst (.bool true)) (.tmp 73)), none⟩, ⟨(some 13), (.mv (.tmp 74)), none⟩]
abbrev A16r14 : List AIns := [⟨(some 75), (.mv (.tmp 0)), none⟩, ⟨(some 76), (.mv (.tmp 14)), none⟩, ⟨(some 77), (.iaddr 5 (.tmp 75) (.tmp 76)), none⟩, ⟨(some 78), (.faddr 0 (.tmp 77)), none⟩, ⟨(some 79), (.load false 1 (.tmp 78)), none⟩, ⟨(some 14), (.mv (.tmp 79)), none⟩]
abbrev A16c15 : ACode := (.seq (.reg A16r10 [0, 4, 11, 12, 13, 14, 15]) (.seq (.seq (.reg A16r11 [0, 4, 11, 12, 13, 14, 15, 54]) (.cond (.tmp 54) [0, 4, 11, 12, 13, 14] (.reg A16r12 [0, 4, 11, 12, 13, 14, 15]) [0, 4, 11, 12, 13, 14, 15] .skip)) (.seq (.dreg A16d13 [[], [0], [0, 1], [0, 1], [0, 1, 2, 3], [0, 1, 2, 3, 4], [0, 1, 2, 3, 4, 5], [0, 1], [0, 1], [0, 1, 7, 8], [0, 1, 7, 8, 9], [0, 1, 2, 3, 4, 5, 6, 7, 8, 9, 10], [0, 1], [0, 1, 2, 3, 4, 5, 6, 7, 8, 9, 10, 11, 12], [0, 1, 2, 3, 4, 5, 6, 7, 8, 9, 10, 11, 12, 13], [0, 1, 2, 3, 4, 5, 6, 7, 8, 9, 10, 11, 12, 13, 14]] [0, 4, 11, 12, 13, 14]) (.reg A16r14 [0, 4, 11, 12, 13, 14]))))
abbrev A16l8 : ACode := (.seq (.seq (.reg A16r9 [0, 4, 11, 12, 13, 14, 48]) (.cond (.tmp 48) [0, 4, 11, 12, 13, 14] .skip [12, 13, 14] (.exit 0))) (.block 1 A16c15))
abbrev A16r16 : List AIns := [⟨(some 80), (.mv (.tmp 13)), none⟩, ⟨(some 81), (.mv (.tmp 80)), none⟩, ⟨(some 82), (.mv (.tmp 14)), (some (81, false))⟩, ⟨(some 83), (.mv (.tmp 12)), (some (81, false))⟩, ⟨(some 84), (.bin .neq (.tmp 82) (.tmp 83)), (some (81, false))⟩, ⟨(some 85), (.pick (.tmp 81) (.cst (.bool true)) (.tmp 84)), none⟩, ⟨(some 10), (.mv (.tmp 85)), none⟩]
def A16 : AFun := ⟨86, 5, [(.tmp 10)], (.seq (.reg A16r1 [0, 1, 2, 3, 4]) (.seq (.seq (.reg A16r2 [0, 1, 2, 3, 4, 39]) (.cond (.tmp 39) [] (.seq (.reg A16r3 [10]) .ret) [0, 1, 2, 3, 4] .skip)) (.seq (.reg A16r4 [0, 2, 3, 4, 11]) (.seq (.reg A16r5 [0, 2, 4, 11, 12]) (.seq (.reg A16r6 [0, 2, 4, 11, 12, 13]) (.seq (.reg A16r7 [0, 4, 11, 12, 13, 14]) (.seq (.block 0 (.loop A16l8)) (.seq (.reg A16r16 [10]) .ret))))))))⟩
theorem A16c : compF Try.prog Try.f16 = some A16 := by kernel_rfl
theorem A16k : Callable Try.prog 16 := fun a w => Try.call16 a w
theorem A16p {ds : List D} {r : D} (hl : ds.length ≤ A16.nt) (hw : W Try.prog A16.code (Fin A16.results r) ⟨argEnv 0 ds, fun _ => none⟩) : PCon Try.prog 16 ds r := pcon_of_W mixed Try.func16 A16k A16c hl hw
/- estovers/estoversref20.Guarded -/
abbrev A17r1 : List AIns := [⟨(some 10), (.mv (.cst (.bool false))), none⟩]
abbrev A17r2 : List AIns := [⟨(some 14), (.mv (.tmp 0)), none⟩, ⟨(some 15), (.mv (.tmp 1)), none⟩, ⟨(some 16), (.call (.fnc 32) [(.tmp 14), (.tmp 15)]), none⟩, ⟨(some 17), (.un .not (.tmp 16)), none⟩, ⟨(some 18), (.mv (.tmp 17)), none⟩, ⟨(some 19), (.mv (.tmp 2)), (some (18, false))⟩, ⟨(some 20), (.bin .lss (.tmp 19) (.cst (.int .i64 0))), (some (18, false))⟩, ⟨(some 21), (.pick (.tmp 18) (.cst (.bool true)) (.tmp 20)), none⟩, ⟨(some 22), (.mv (.tmp 21)), none⟩, ⟨(some 23), (.mv (.tmp 2)), (some (22, false))⟩, ⟨(some 24), (.mv (.tmp 0)), (some (22, false))⟩, ⟨(some 25), (.len (.tmp 24)), (some (22, false))⟩, ⟨(some 26), (.bin .geq (.tmp 23) (.tmp 25)), (some (22, false))⟩, ⟨(some 27), (.pick (.tmp 22) (.cst (.bool true)) (.tmp 26)), none⟩, ⟨(some 28), (.mv (.tmp 27)), none⟩, ⟨(some 29), (.mv (.tmp 3)), (some (28, false))⟩, ⟨(some 30), (.bin .lss (.tmp 29) (.cst (.int .i64 (-1)))), (some (28, false))⟩, ⟨(some 31), (.pick (.tmp 28) (.cst (.bool true)) (.tmp 30)), none⟩, ⟨(some 32), (.mv (.tmp 31)), none⟩, ⟨(some 33), (.mv (.tmp 3)), (some (32, false))⟩, ⟨(some 34), (.mv (.tmp 0)), (some (32, false))⟩, ⟨(some 35), (.len (.tmp 34)), (some (32, false))⟩, ⟨(some 36), (.bin .geq (.tmp 33) (.tmp 35)), (some (32, false))⟩, ⟨(some 37), (.pick (.tmp 32) (.cst (.bool true)) (.tmp 36)), none⟩, ⟨(some 38), (.mv (.tmp 37)), none⟩, ⟨(some 39), (.mv (.tmp 0)), (some (38, false))⟩, ⟨(some 40), (.mv (.tmp 2)), (some (38, false))⟩, ⟨(some 41), (.mv (.tmp 3)), (some (38, false))⟩, ⟨(some 42), (.call (.fnc 26) [(.tmp 39), (.tmp 40), (.tmp 41)]), (some (38, false))⟩, ⟨(some 43), (.un .not (.tmp 42)), (some (38, false))⟩, ⟨(some 44), (.pick (.tmp 38) (.cst (.bool true)) (.tmp 43)), none⟩]
abbrev A17r3 : List AIns := [⟨(some 10), (.mv (.cst (.bool true))), none⟩]
abbrev A17r4 : List AIns := [⟨(some 45), (.mv (.tmp 0)), none⟩, ⟨(some 46), (.mv (.tmp 1)), none⟩, ⟨(some 47), (.call (.fnc 33) [(.tmp 45), (.tmp 46)]), none⟩, ⟨(some 11), (.mv (.tmp 47)), none⟩]
abbrev A17r5 : List AIns := [⟨(some 48), (.mv (.tmp 2)), none⟩, ⟨(some 12), (.mv (.tmp 48)), none⟩]
abbrev A17r7 : List AIns := [⟨(some 49), (.mv (.tmp 12)), none⟩, ⟨(some 50), (.bin .gtr (.tmp 49) (.cst (.int .i64 0))), none⟩, ⟨(some 51), (.mv (.tmp 50)), none⟩, ⟨(some 52), (.mv (.tmp 12)), (some (51, true))⟩, ⟨(some 53), (.mv (.tmp 3)), (some (51, true))⟩, ⟨(some 54), (.bin .neq (.tmp 52) (.tmp 53)), (some (51, true))⟩, ⟨(some 55), (.pick (.tmp 51) (.tmp 54) (.cst (.bool false))), none⟩]
abbrev A17r8 : List AIns := [⟨(some 61), (.mv (.tmp 0)), none⟩, ⟨(some 62), (.mv (.tmp 12)), none⟩, ⟨(some 63), (.iaddr 5 (.tmp 61) (.tmp 62)), none⟩, ⟨(some 64), (.faddr 2 (.tmp 63)), none⟩, ⟨(some 65), (.load false 1 (.tmp 64)), none⟩, ⟨(some 13), (.mv (.tmp 65)), none⟩]
abbrev A17r9 : List AIns := [⟨(some 66), (.mv (.tmp 4)), none⟩]
abbrev A17r10 : List AIns := [⟨(some 67), (.mv (.tmp 0)), none⟩, ⟨(some 68), (.mv (.tmp 12)), none⟩, ⟨(some 69), (.iaddr 5 (.tmp 67) (.tmp 68)), none⟩, ⟨(some 70), (.faddr 3 (.tmp 69)), none⟩, ⟨(some 71), (.load false 1 (.tmp 70)), none⟩, ⟨(some 13), (.mv (.tmp 71)), none⟩]
abbrev A17d11 : List AIns := [⟨(some 72), (.mv (.tmp 0)), none⟩, ⟨(some 73), (.mv (.tmp 12)), none⟩, ⟨(some 74), (.iaddr 5 (.tmp 72) (.tmp 73)), none⟩, ⟨(some 75), (.faddr 1 (.tmp 74)), none⟩, ⟨(some 76), (.load false 1 (.tmp 75)), none⟩, ⟨(some 77), (.mv (.tmp 11)), none⟩, ⟨(some 78), (.mv (.tmp 12)), none⟩, ⟨(some 79), (.iaddr 1 (.tmp 77) (.tmp 78)), none⟩, ⟨(some 80), (.load false 1 (.tmp 79)), none⟩, ⟨(some 81), (.bin .sub (.tmp 76) (.tmp 80)), none⟩, ⟨(some 82), (.mv (.tmp 13)), none⟩, ⟨(some 83), (.bin .leq (.tmp 81) (.tmp 82)), none⟩]
abbrev A17r12 : List AIns := [⟨(some 10), (.mv (.cst (.bool true))), none⟩]
abbrev A17c13 : ACode := (.seq (.reg A17r8 [0, 3, 4, 11, 12, 13]) (.seq (.seq (.reg A17r9 [0, 3, 4, 11, 12, 13, 66]) (.cond (.tmp 66) [0, 3, 4, 11, 12] (.reg A17r10 [0, 3, 4, 11, 12, 13]) [0, 3, 4, 11, 12, 13] .skip)) (.seq (.dreg A17d11 [[], [], [0, 1], [0, 1, 2], [0, 1, 2, 3], [], [], [5, 6], [5, 6, 7], [0, 1, 2, 3, 4, 5, 6, 7, 8], [], [0, 1, 2, 3, 4, 5, 6, 7, 8, 9, 10]] [0, 3, 4, 11, 12, 83]) (.cond (.tmp 83) [] (.seq (.reg A17r12 [10]) .ret) [0, 3, 4, 11, 12] .skip))))
abbrev A17r14 : List AIns := [⟨(some 56), (.mv (.tmp 0)), none⟩, ⟨(some 57), (.mv (.tmp 12)), none⟩, ⟨(some 58), (.iaddr 5 (.tmp 56) (.tmp 57)), none⟩, ⟨(some 59), (.faddr 0 (.tmp 58)), none⟩, ⟨(some 60), (.load false 1 (.tmp 59)), none⟩, ⟨(some 12), (.mv (.tmp 60)), none⟩]
abbrev A17l6 : ACode := (.seq (.seq (.reg A17r7 [0, 3, 4, 11, 12, 55]) (.cond (.tmp 55) [0, 3, 4, 11, 12] .skip [] (.exit 0))) (.seq (.block 1 A17c13) (.reg A17r14 [0, 3, 4, 11, 12])))
abbrev A17r15 : List AIns := [⟨(some 10), (.mv (.cst (.bool false))), none⟩]
def A17 : AFun := ⟨84, 5, [(.tmp 10)], (.seq (.reg A17r1 [0, 1, 2, 3, 4]) (.seq (.seq (.reg A17r2 [0, 1, 2, 3, 4, 44]) (.cond (.tmp 44) [] (.seq (.reg A17r3 [10]) .ret) [0, 1, 2, 3, 4] .skip)) (.seq (.reg A17r4 [0, 2, 3, 4, 11]) (.seq (.seq (.reg A17r5 [0, 3, 4, 11, 12]) (.block 0 (.loop A17l6))) (.seq (.reg A17r15 [10]) .ret)))))⟩
theorem A17c : compF Try.prog Try.f17 = some A17 := by kernel_rfl
theorem A17k : Callable Try.prog 17 := fun a w => Try.call17 a w
theorem A17p {ds : List D} {r : D} (hl : ds.length ≤ A17.nt) (hw : W Try.prog A17.code (Fin A17.results r) ⟨argEnv 0 ds, fun _ => none⟩) : PCon Try.prog 17 ds r := pcon_of_W mixed Try.func17 A17k A17c hl hw
/- estovers/protection.Overcommit -/
abbrev A18r1 : List AIns := [⟨(some 4), (.mv (.cst (.int .i64 0))), none⟩, ⟨(some 5), (.mv (.cst (.int .i64 0))), none⟩]
abbrev A18r2 : List AIns := [⟨(some 12), (.mv (.tmp 0)), none⟩, ⟨(some 13), (.call (.fnc 28) [(.tmp 12)]), none⟩, ⟨(some 6), (.mv (.tmp 13)), none⟩]
abbrev A18r3 : List AIns := [⟨(some 14), (.mv (.tmp 6)), none⟩, ⟨(some 15), (.bin .neq (.tmp 14) (.cst (.int .i64 0))), none⟩]
abbrev A18r4 : List AIns := [⟨(some 16), (.mv (.tmp 6)), none⟩, ⟨(some 4), (.mv (.cst (.int .i64 0))), none⟩, ⟨(some 5), (.mv (.tmp 16)), none⟩]
abbrev A18r5 : List AIns := [⟨(some 17), (.mv (.tmp 1)), none⟩, ⟨(some 18), (.bin .lss (.tmp 17) (.cst (.int .i64 0))), none⟩, ⟨(some 19), (.mv (.tmp 18)), none⟩, ⟨(some 20), (.mv (.tmp 1)), (some (19, false))⟩, ⟨(some 21), (.bin .gtr (.tmp 20) (.cst (.int .i64 1048576))), (some (19, false))⟩, ⟨(some 22), (.pick (.tmp 19) (.cst (.bool true)) (.tmp 21)), none⟩]
abbrev A18r6 : List AIns := [⟨(some 4), (.mv (.cst (.int .i64 0))), none⟩, ⟨(some 5), (.mv (.cst (.int .i64 2))), none⟩]
abbrev A18r7 : List AIns := [⟨(some 23), (.mv (.tmp 0)), none⟩, ⟨(some 24), (.len (.tmp 23)), none⟩, ⟨(some 25), (.mkslice 1 8 [(.int .i64 0)] (.tmp 24) (.tmp 24)), none⟩, ⟨(some 7), (.mv (.tmp 25)), none⟩]
abbrev A18r8 : List AIns := [⟨(some 26), (.mv (.tmp 0)), none⟩, ⟨(some 27), (.slice 5 (.tmp 26) (some (.cst (.int .i64 1))) none), none⟩, ⟨(some 28), (.len (.tmp 27)), none⟩, ⟨(some 29), (.mv (.cst (.int .i64 0))), none⟩]
abbrev A18r10 : List AIns := [⟨(some 30), (.bin .lss (.tmp 29) (.tmp 28)), none⟩]
abbrev A18r11 : List AIns := [⟨(some 31), (.iaddr 5 (.tmp 27) (.tmp 29)), none⟩, ⟨(some 32), (.load true 5 (.tmp 31)), none⟩, ⟨(some 9), (.alloc [(.int .i64 0), (.int .i64 0), (.int .i64 0), (.int .i64 0), (.int .i64 0)]), none⟩, ⟨none, (.store 5 (.tmp 9) (.tmp 32)), none⟩]
abbrev A18d12 : List AIns := [⟨(some 33), (.mv (.tmp 7)), none⟩, ⟨(some 34), (.faddr 0 (.tmp 9)), none⟩, ⟨(some 35), (.load false 1 (.tmp 34)), none⟩, ⟨(some 36), (.iaddr 1 (.tmp 33) (.tmp 35)), none⟩, ⟨(some 37), (.load false 1 (.tmp 36)), none⟩, ⟨(some 38), (.faddr 2 (.tmp 9)), none⟩, ⟨(some 39), (.load false 1 (.tmp 38)), none⟩, ⟨(some 40), (.bin .add (.tmp 37) (.tmp 39)), none⟩, ⟨(some 41), (.iaddr 1 (.tmp 33) (.tmp 35)), none⟩, ⟨none, (.store 1 (.tmp 41) (.tmp 40)), none⟩]
abbrev A18d12p : List AIns := [⟨(some 33), (.mv (.tmp 7)), none⟩, ⟨(some 34), (.faddr 0 (.tmp 9)), none⟩, ⟨(some 35), (.load false 1 (.tmp 34)), none⟩, ⟨(some 36), (.iaddr 1 (.tmp 33) (.tmp 35)), none⟩, ⟨(some 37), (.load false 1 (.tmp 36)), none⟩, ⟨(some 38), (.faddr 2 (.tmp 9)), none⟩, ⟨(some 39), (.load false 1 (.tmp 38)), none⟩, ⟨(some 40), (.bin .add (.tmp 37) (.tmp 39)), none⟩, ⟨(some 41), (.iaddr 1 (.tmp 33) (.tmp 35)), none⟩]
abbrev A18c13 : ACode := (.seq (.reg A18r11 [0, 1, 7, 9, 27, 28, 29]) (.dreg A18d12 [[], [], [1], [0, 1, 2], [0, 1, 2, 3], [], [5], [0, 1, 2, 3, 4, 5, 6], [0, 1, 2, 3, 4, 5, 6, 7], [0, 1, 2, 3, 4, 5, 6, 7, 8]] [0, 1, 7, 27, 28, 29]))
abbrev A18r14 : List AIns := [⟨(some 42), (.bin .add (.tmp 29) (.cst (.int .i64 1))), none⟩, ⟨(some 29), (.mv (.tmp 42)), none⟩]
abbrev A18l9 : ACode := (.seq (.reg A18r10 [0, 1, 7, 27, 28, 29, 30]) (.seq (.cond (.tmp 30) [0, 1, 7, 27, 28, 29] .skip [0, 1, 7] (.exit 0)) (.seq (.block 1 A18c13) (.reg A18r14 [0, 1, 7, 27, 28, 29]))))
abbrev A18r15 : List AIns := [⟨(some 43), (.mv (.tmp 7)), none⟩, ⟨(some 44), (.len (.tmp 43)), none⟩, ⟨(some 45), (.mv (.cst (.int .i64 0))), none⟩]
abbrev A18r17 : List AIns := [⟨(some 46), (.bin .lss (.tmp 45) (.tmp 44)), none⟩]
abbrev A18r18 : List AIns := [⟨(some 47), (.mv (.tmp 45)), none⟩, ⟨(some 48), (.iaddr 1 (.tmp 43) (.tmp 45)), none⟩, ⟨(some 49), (.load false 1 (.tmp 48)), none⟩, ⟨(some 10), (.mv (.tmp 47)), none⟩, ⟨(some 11), (.mv (.tmp 49)), none⟩]
abbrev A18r19 : List AIns := [⟨(some 50), (.mv (.tmp 10)), none⟩, ⟨(some 51), (.bin .eql (.tmp 50) (.cst (.int .i64 0))), none⟩, ⟨(some 52), (.mv (.tmp 51)), none⟩, ⟨(some 53), (.mv (.tmp 11)), (some (52, true))⟩, ⟨(some 54), (.mv (.tmp 1)), (some (52, true))⟩, ⟨(some 55), (.bin .gtr (.tmp 53) (.tmp 54)), (some (52, true))⟩, ⟨(some 56), (.pick (.tmp 52) (.tmp 55) (.cst (.bool false))), none⟩, ⟨(some 57), (.mv (.tmp 56)), none⟩, ⟨(some 58), (.mv (.tmp 10)), (some (57, false))⟩, ⟨(some 59), (.bin .gtr (.tmp 58) (.cst (.int .i64 0))), (some (57, false))⟩, ⟨(some 60), (.mv (.tmp 59)), (some (57, false))⟩, ⟨(some 61), (.mv (.tmp 11)), (some (60, true))⟩, ⟨(some 62), (.mv (.tmp 0)), (some (60, true))⟩, ⟨(some 63), (.mv (.tmp 10)), (some (60, true))⟩, ⟨(some 64), (.iaddr 5 (.tmp 62) (.tmp 63)), (some (60, true))⟩, ⟨(some 65), (.faddr 2 (.tmp 64)), (some (60, true))⟩, ⟨(some 66), (.load false 1 (.tmp 65)), (some (60, true))⟩, ⟨(some 67), (.bin .gtr (.tmp 61) (.tmp 66)), (some (60, true))⟩, ⟨(some 68), (.pick (.tmp 60) (.tmp 67) (.cst (.bool false))), (some (57, false))⟩, ⟨(some 69), (.pick (.tmp 57) (.cst (.bool true)) (.tmp 68)), none⟩]
abbrev A18r20 : List AIns := [⟨(some 70), (.mv (.tmp 10)), none⟩, ⟨(some 4), (.mv (.tmp 70)), none⟩, ⟨(some 5), (.mv (.cst (.int .i64 0))), none⟩]
abbrev A18c21 : ACode := (.seq (.reg A18r18 [0, 1, 10, 11, 43, 44, 45]) (.seq (.reg A18r19 [0, 1, 10, 43, 44, 45, 69]) (.cond (.tmp 69) [10] (.seq (.reg A18r20 [4, 5]) .ret) [0, 1, 43, 44, 45] .skip)))
abbrev A18r22 : List AIns := [⟨(some 71), (.bin .add (.tmp 45) (.cst (.int .i64 1))), none⟩, ⟨(some 45), (.mv (.tmp 71)), none⟩]
abbrev A18l16 : ACode := (.seq (.reg A18r17 [0, 1, 43, 44, 45, 46]) (.seq (.cond (.tmp 46) [0, 1, 43, 44, 45] .skip [] (.exit 2)) (.seq (.block 3 A18c21) (.reg A18r22 [0, 1, 43, 44, 45]))))
abbrev A18r23 : List AIns := [⟨(some 4), (.mv (.cst (.int .i64 (-1)))), none⟩, ⟨(some 5), (.mv (.cst (.int .i64 0))), none⟩]
def A18 : AFun := ⟨72, 2, [(.tmp 4), (.tmp 5)], (.seq (.reg A18r1 [0, 1]) (.seq (.seq (.reg A18r2 [0, 1, 6]) (.seq (.reg A18r3 [0, 1, 6, 15]) (.cond (.tmp 15) [6] (.seq (.reg A18r4 [4, 5]) .ret) [0, 1] .skip))) (.seq (.seq (.reg A18r5 [0, 1, 22]) (.cond (.tmp 22) [] (.seq (.reg A18r6 [4, 5]) .ret) [0, 1] .skip)) (.seq (.reg A18r7 [0, 1, 7]) (.seq (.seq (.reg A18r8 [0, 1, 7, 27, 28, 29]) (.block 0 (.loop A18l9))) (.seq (.seq (.reg A18r15 [0, 1, 43, 44, 45]) (.block 2 (.loop A18l16))) (.seq (.reg A18r23 [4, 5]) .ret)))))))⟩
theorem A18c : compF Try.prog Try.f18 = some A18 := by kernel_rfl
theorem A18k : Callable Try.prog 18 := fun a w => Try.call18 a w
theorem A18p {ds : List D} {r : D} (hl : ds.length ≤ A18.nt) (hw : W Try.prog A18.code (Fin A18.results r) ⟨argEnv 0 ds, fun _ => none⟩) : PCon Try.prog 18 ds r := pcon_of_W mixed Try.func18 A18k A18c hl hw
/- estovers/estoversref20.Overcommit -/
/- estovers/protection.Inside -/
abbrev A20r1 : List AIns := [⟨(some 4), (.mv (.cst .nil)), none⟩]
abbrev A20r2 : List AIns := [⟨(some 5), (.mv (.tmp 0)), none⟩, ⟨(some 6), (.mv (.tmp 1)), none⟩, ⟨(some 7), (.call (.fnc 30) [(.tmp 5), (.tmp 6)]), none⟩, ⟨(some 8), (.un .not (.tmp 7)), none⟩]
abbrev A20r3 : List AIns := [⟨(some 4), (.mv (.cst .nil)), none⟩]
abbrev A20r4 : List AIns := [⟨(some 9), (.mv (.tmp 0)), none⟩, ⟨(some 10), (.mv (.tmp 1)), none⟩, ⟨(some 11), (.call (.fnc 31) [(.tmp 9), (.tmp 10)]), none⟩, ⟨(some 4), (.mv (.tmp 11)), none⟩]
def A20 : AFun := ⟨12, 2, [(.tmp 4)], (.seq (.reg A20r1 [0, 1]) (.seq (.seq (.reg A20r2 [0, 1, 8]) (.cond (.tmp 8) [] (.seq (.reg A20r3 [4]) .ret) [0, 1] .skip)) (.seq (.reg A20r4 [4]) .ret)))⟩
theorem A20c : compF Try.prog Try.f20 = some A20 := by kernel_rfl
theorem A20k : Callable Try.prog 20 := fun a w => Try.call20 a w
theorem A20p {ds : List D} {r : D} (hl : ds.length ≤ A20.nt) (hw : W Try.prog A20.code (Fin A20.results r) ⟨argEnv 0 ds, fun _ => none⟩) : PCon Try.prog 20 ds r := pcon_of_W mixed Try.func20 A20k A20c hl hw
/- estovers/estoversref20.Inside -/
/- estovers/protection.Open -/
abbrev A22r1 : List AIns := [⟨(some 6), (.mv (.cst (.int .i64 0))), none⟩]
abbrev A22r2 : List AIns := [⟨(some 8), (.mv (.tmp 0)), none⟩, ⟨(some 9), (.mv (.tmp 1)), none⟩, ⟨(some 10), (.call (.fnc 30) [(.tmp 8), (.tmp 9)]), none⟩, ⟨(some 11), (.un .not (.tmp 10)), none⟩]
abbrev A22r3 : List AIns := [⟨(some 6), (.mv (.cst (.int .i64 (-1)))), none⟩]
abbrev A22r4 : List AIns := [⟨(some 12), (.mv (.tmp 0)), none⟩, ⟨(some 13), (.len (.tmp 12)), none⟩, ⟨(some 14), (.mv (.cst (.int .i64 0))), none⟩]
abbrev A22r6 : List AIns := [⟨(some 15), (.bin .lss (.tmp 14) (.tmp 13)), none⟩]
abbrev A22r7 : List AIns := [⟨(some 16), (.mv (.tmp 14)), none⟩, ⟨(some 7), (.mv (.tmp 16)), none⟩]
abbrev A22d8 : List AIns := [⟨(some 17), (.mv (.tmp 0)), none⟩, ⟨(some 18), (.mv (.tmp 7)), none⟩, ⟨(some 19), (.call (.fnc 34) [(.tmp 17), (.tmp 18)]), none⟩, ⟨(some 20), (.mv (.tmp 1)), none⟩, ⟨(some 21), (.mv (.tmp 7)), none⟩, ⟨(some 22), (.iaddr 1 (.tmp 20) (.tmp 21)), none⟩, ⟨(some 23), (.load false 1 (.tmp 22)), none⟩, ⟨(some 24), (.bin .gtr (.tmp 19) (.tmp 23)), none⟩, ⟨(some 25), (.mv (.tmp 24)), none⟩, ⟨(some 26), (.mv (.tmp 0)), (some (25, true))⟩, ⟨(some 27), (.mv (.tmp 1)), (some (25, true))⟩, ⟨(some 28), (.mv (.tmp 7)), (some (25, true))⟩, ⟨(some 29), (.mv (.tmp 2)), (some (25, true))⟩, ⟨(some 30), (.call (.fnc 16) [(.tmp 26), (.tmp 27), (.tmp 28), (.tmp 29), (.cst (.bool false))]), (some (25, true))⟩, ⟨(some 31), (.un .not (.tmp 30)), (some (25, true))⟩, ⟨(some 32), (.pick (.tmp 25) (.tmp 31) (.cst (.bool false))), none⟩]
abbrev A22r9 : List AIns := [⟨(some 33), (.mv (.tmp 7)), none⟩, ⟨(some 6), (.mv (.tmp 33)), none⟩]
abbrev A22c10 : ACode := (.seq (.reg A22r7 [0, 1, 2, 7, 13, 14]) (.seq (.dreg A22d8 [[], [], [0, 1], [], [], [3, 4], [3, 4, 5], [0, 1, 2, 3, 4, 5, 6], [0, 1, 2, 3, 4, 5, 6, 7], [0, 1, 2, 3, 4, 5, 6, 7, 8], [0, 1, 2, 3, 4, 5, 6, 7, 8], [0, 1, 2, 3, 4, 5, 6, 7, 8], [0, 1, 2, 3, 4, 5, 6, 7, 8], [0, 1, 2, 3, 4, 5, 6, 7, 8, 9, 10, 11, 12], [0, 1, 2, 3, 4, 5, 6, 7, 8, 9, 10, 11, 12, 13], [0, 1, 2, 3, 4, 5, 6, 7, 8, 9, 10, 11, 12, 13, 14]] [0, 1, 2, 7, 13, 14, 32]) (.cond (.tmp 32) [7] (.seq (.reg A22r9 [6]) .ret) [0, 1, 2, 13, 14] .skip)))
abbrev A22r11 : List AIns := [⟨(some 34), (.bin .add (.tmp 14) (.cst (.int .i64 1))), none⟩, ⟨(some 14), (.mv (.tmp 34)), none⟩]
abbrev A22l5 : ACode := (.seq (.reg A22r6 [0, 1, 2, 13, 14, 15]) (.seq (.cond (.tmp 15) [0, 1, 2, 13, 14] .skip [] (.exit 0)) (.seq (.block 1 A22c10) (.reg A22r11 [0, 1, 2, 13, 14]))))
abbrev A22r12 : List AIns := [⟨(some 6), (.mv (.cst (.int .i64 (-1)))), none⟩]
def A22 : AFun := ⟨35, 3, [(.tmp 6)], (.seq (.reg A22r1 [0, 1, 2]) (.seq (.seq (.reg A22r2 [0, 1, 2, 11]) (.cond (.tmp 11) [] (.seq (.reg A22r3 [6]) .ret) [0, 1, 2] .skip)) (.seq (.seq (.reg A22r4 [0, 1, 2, 13, 14]) (.block 0 (.loop A22l5))) (.seq (.reg A22r12 [6]) .ret))))⟩
theorem A22c : compF Try.prog Try.f22 = some A22 := by kernel_rfl
theorem A22k : Callable Try.prog 22 := fun a w => Try.call22 a w
theorem A22p {ds : List D} {r : D} (hl : ds.length ≤ A22.nt) (hw : W Try.prog A22.code (Fin A22.results r) ⟨argEnv 0 ds, fun _ => none⟩) : PCon Try.prog 22 ds r := pcon_of_W mixed Try.func22 A22k A22c hl hw
/- estovers/estoversref20.Open -/
abbrev A23r1 : List AIns := [⟨(some 6), (.mv (.cst (.int .i64 0))), none⟩]
abbrev A23r2 : List AIns := [⟨(some 8), (.mv (.tmp 0)), none⟩, ⟨(some 9), (.mv (.tmp 1)), none⟩, ⟨(some 10), (.call (.fnc 32) [(.tmp 8), (.tmp 9)]), none⟩, ⟨(some 11), (.un .not (.tmp 10)), none⟩, ⟨(some 12), (.mv (.tmp 11)), none⟩, ⟨(some 13), (.mv (.tmp 2)), (some (12, false))⟩, ⟨(some 14), (.bin .lss (.tmp 13) (.cst (.int .i64 (-1)))), (some (12, false))⟩, ⟨(some 15), (.pick (.tmp 12) (.cst (.bool true)) (.tmp 14)), none⟩, ⟨(some 16), (.mv (.tmp 15)), none⟩, ⟨(some 17), (.mv (.tmp 2)), (some (16, false))⟩, ⟨(some 18), (.mv (.tmp 0)), (some (16, false))⟩, ⟨(some 19), (.len (.tmp 18)), (some (16, false))⟩, ⟨(some 20), (.bin .geq (.tmp 17) (.tmp 19)), (some (16, false))⟩, ⟨(some 21), (.pick (.tmp 16) (.cst (.bool true)) (.tmp 20)), none⟩]
abbrev A23r3 : List AIns := [⟨(some 6), (.mv (.cst (.int .i64 (-1)))), none⟩]
abbrev A23r4 : List AIns := [⟨(some 7), (.mv (.cst (.int .i64 0))), none⟩]
abbrev A23r6 : List AIns := [⟨(some 22), (.mv (.tmp 7)), none⟩, ⟨(some 23), (.mv (.tmp 0)), none⟩, ⟨(some 24), (.len (.tmp 23)), none⟩, ⟨(some 25), (.bin .lss (.tmp 22) (.tmp 24)), none⟩]
abbrev A23d7 : List AIns := [⟨(some 28), (.mv (.tmp 0)), none⟩, ⟨(some 29), (.mv (.tmp 7)), none⟩, ⟨(some 30), (.mv (.tmp 2)), none⟩, ⟨(some 31), (.call (.fnc 26) [(.tmp 28), (.tmp 29), (.tmp 30)]), none⟩, ⟨(some 32), (.mv (.tmp 31)), none⟩, ⟨(some 33), (.mv (.tmp 0)), (some (32, true))⟩, ⟨(some 34), (.mv (.tmp 7)), (some (32, true))⟩, ⟨(some 35), (.call (.fnc 25) [(.tmp 33), (.tmp 34)]), (some (32, true))⟩, ⟨(some 36), (.mv (.tmp 1)), (some (32, true))⟩, ⟨(some 37), (.mv (.tmp 7)), (some (32, true))⟩, ⟨(some 38), (.iaddr 1 (.tmp 36) (.tmp 37)), (some (32, true))⟩, ⟨(some 39), (.load false 1 (.tmp 38)), (some (32, true))⟩, ⟨(some 40), (.bin .gtr (.tmp 35) (.tmp 39)), (some (32, true))⟩, ⟨(some 41), (.pick (.tmp 32) (.tmp 40) (.cst (.bool false))), none⟩, ⟨(some 42), (.mv (.tmp 41)), none⟩, ⟨(some 43), (.mv (.tmp 0)), (some (42, true))⟩, ⟨(some 44), (.mv (.tmp 1)), (some (42, true))⟩, ⟨(some 45), (.mv (.tmp 7)), (some (42, true))⟩, ⟨(some 46), (.mv (.tmp 2)), (some (42, true))⟩, ⟨(some 47), (.call (.fnc 17) [(.tmp 43), (.tmp 44), (.tmp 45), (.tmp 46), (.cst (.bool false))]), (some (42, true))⟩, ⟨(some 48), (.un .not (.tmp 47)), (some (42, true))⟩, ⟨(some 49), (.pick (.tmp 42) (.tmp 48) (.cst (.bool false))), none⟩]
abbrev A23r8 : List AIns := [⟨(some 50), (.mv (.tmp 7)), none⟩, ⟨(some 6), (.mv (.tmp 50)), none⟩]
abbrev A23c9 : ACode := (.seq (.dreg A23d7 [[], [], [], [0, 1, 2], [0, 1, 2, 3], [0, 1, 2, 3, 4], [0, 1, 2, 3, 4], [0, 1, 2, 3, 4, 5, 6], [0, 1, 2, 3, 4], [0, 1, 2, 3, 4], [0, 1, 2, 3, 4, 8, 9], [0, 1, 2, 3, 4, 8, 9, 10], [0, 1, 2, 3, 4, 5, 6, 7, 8, 9, 10, 11], [0, 1, 2, 3, 4, 5, 6, 7, 8, 9, 10, 11, 12], [0, 1, 2, 3, 4, 5, 6, 7, 8, 9, 10, 11, 12, 13], [0, 1, 2, 3, 4, 5, 6, 7, 8, 9, 10, 11, 12, 13, 14], [0, 1, 2, 3, 4, 5, 6, 7, 8, 9, 10, 11, 12, 13, 14], [0, 1, 2, 3, 4, 5, 6, 7, 8, 9, 10, 11, 12, 13, 14], [0, 1, 2, 3, 4, 5, 6, 7, 8, 9, 10, 11, 12, 13, 14], [0, 1, 2, 3, 4, 5, 6, 7, 8, 9, 10, 11, 12, 13, 14, 15, 16, 17, 18], [0, 1, 2, 3, 4, 5, 6, 7, 8, 9, 10, 11, 12, 13, 14, 15, 16, 17, 18, 19], [0, 1, 2, 3, 4, 5, 6, 7, 8, 9, 10, 11, 12, 13, 14, 15, 16, 17, 18, 19, 20]] [0, 1, 2, 7, 49]) (.cond (.tmp 49) [7] (.seq (.reg A23r8 [6]) .ret) [0, 1, 2, 7] .skip))
abbrev A23r10 : List AIns := [⟨(some 26), (.mv (.tmp 7)), none⟩, ⟨(some 27), (.bin .add (.tmp 26) (.cst (.int .i64 1))), none⟩, ⟨(some 7), (.mv (.tmp 27)), none⟩]
abbrev A23l5 : ACode := (.seq (.seq (.reg A23r6 [0, 1, 2, 7, 25]) (.cond (.tmp 25) [0, 1, 2, 7] .skip [] (.exit 0))) (.seq (.block 1 A23c9) (.reg A23r10 [0, 1, 2, 7])))
abbrev A23r11 : List AIns := [⟨(some 6), (.mv (.cst (.int .i64 (-1)))), none⟩]
def A23 : AFun := ⟨51, 3, [(.tmp 6)], (.seq (.reg A23r1 [0, 1, 2]) (.seq (.seq (.reg A23r2 [0, 1, 2, 21]) (.cond (.tmp 21) [] (.seq (.reg A23r3 [6]) .ret) [0, 1, 2] .skip)) (.seq (.seq (.reg A23r4 [0, 1, 2, 7]) (.block 0 (.loop A23l5))) (.seq (.reg A23r11 [6]) .ret))))⟩
theorem A23c : compF Try.prog Try.f23 = some A23 := by kernel_rfl
theorem A23k : Callable Try.prog 23 := fun a w => Try.call23 a w
theorem A23p {ds : List D} {r : D} (hl : ds.length ≤ A23.nt) (hw : W Try.prog A23.code (Fin A23.results r) ⟨argEnv 0 ds, fun _ => none⟩) : PCon Try.prog 23 ds r := pcon_of_W mixed Try.func23 A23k A23c hl hw
/- estovers/estoversref19.Check -/
abbrev A24r1 : List AIns := [⟨(some 2), (.mv (.cst (.int .i64 0))), none⟩]
abbrev A24r2 : List AIns := [⟨(some 7), (.mv (.tmp 0)), none⟩, ⟨(some 8), (.len (.tmp 7)), none⟩, ⟨(some 9), (.bin .lss (.tmp 8) (.cst (.int .i64 1))), none⟩, ⟨(some 10), (.mv (.tmp 9)), none⟩, ⟨(some 11), (.mv (.tmp 0)), (some (10, false))⟩, ⟨(some 12), (.len (.tmp 11)), (some (10, false))⟩, ⟨(some 13), (.bin .gtr (.tmp 12) (.cst (.int .i64 8))), (some (10, false))⟩, ⟨(some 14), (.pick (.tmp 10) (.cst (.bool true)) (.tmp 13)), none⟩]
abbrev A24r3 : List AIns := [⟨(some 2), (.mv (.cst (.int .i64 9))), none⟩]
abbrev A24r4 : List AIns := [⟨(some 3), (.mv (.cst (.int .i64 0))), none⟩]
abbrev A24r6 : List AIns := [⟨(some 15), (.mv (.tmp 3)), none⟩, ⟨(some 16), (.mv (.tmp 0)), none⟩, ⟨(some 17), (.len (.tmp 16)), none⟩, ⟨(some 18), (.bin .lss (.tmp 15) (.tmp 17)), none⟩]
abbrev A24r7 : List AIns := [⟨(some 21), (.mv (.tmp 3)), none⟩, ⟨(some 22), (.bin .eql (.tmp 21) (.cst (.int .i64 0))), none⟩, ⟨(some 23), (.mv (.tmp 22)), none⟩, ⟨(some 24), (.mv (.tmp 0)), (some (23, true))⟩, ⟨(some 25), (.mv (.tmp 3)), (some (23, true))⟩, ⟨(some 26), (.iaddr 5 (.tmp 24) (.tmp 25)), (some (23, true))⟩, ⟨(some 27), (.faddr 0 (.tmp 26)), (some (23, true))⟩, ⟨(some 28), (.load false 1 (.tmp 27)), (some (23, true))⟩, ⟨(some 29), (.bin .neq (.tmp 28) (.cst (.int .i64 (-1)))), (some (23, true))⟩, ⟨(some 30), (.pick (.tmp 23) (.tmp 29) (.cst (.bool false))), none⟩, ⟨(some 31), (.mv (.tmp 30)), none⟩, ⟨(some 32), (.mv (.tmp 3)), (some (31, false))⟩, ⟨(some 33), (.bin .gtr (.tmp 32) (.cst (.int .i64 0))), (some (31, false))⟩, ⟨(some 34), (.mv (.tmp 33)), (some (31, false))⟩, ⟨(some 35), (.mv (.tmp 0)), (some (34, true))⟩, ⟨(some 36), (.mv (.tmp 3)), (some (34, true))⟩, ⟨(some 37), (.iaddr 5 (.tmp 35) (.tmp 36)), (some (34, true))⟩, ⟨(some 38), (.faddr 0 (.tmp 37)), (some (34, true))⟩, ⟨(some 39), (.load false 1 (.tmp 38)), (some (34, true))⟩, ⟨(some 40), (.bin .lss (.tmp 39) (.cst (.int .i64 0))), (some (34, true))⟩, ⟨(some 41), (.mv (.tmp 40)), (some (34, true))⟩, ⟨(some 42), (.mv (.tmp 0)), (some (41, false))⟩, ⟨(some 43), (.mv (.tmp 3)), (some (41, false))⟩, ⟨(some 44), (.iaddr 5 (.tmp 42) (.tmp 43)), (some (41, false))⟩, ⟨(some 45), (.faddr 0 (.tmp 44)), (some (41, false))⟩, ⟨(some 46), (.load false 1 (.tmp 45)), (some (41, false))⟩, ⟨(some 47), (.mv (.tmp 3)), (some (41, false))⟩, ⟨(some 48), (.bin .geq (.tmp 46) (.tmp 47)), (some (41, false))⟩, ⟨(some 49), (.pick (.tmp 41) (.cst (.bool true)) (.tmp 48)), (some (34, true))⟩, ⟨(some 50), (.pick (.tmp 34) (.tmp 49) (.cst (.bool false))), (some (31, false))⟩, ⟨(some 51), (.pick (.tmp 31) (.cst (.bool true)) (.tmp 50)), none⟩]
abbrev A24r8 : List AIns := [⟨(some 2), (.mv (.cst (.int .i64 1))), none⟩]
abbrev A24c9 : ACode := (.seq (.reg A24r7 [0, 3, 51]) (.cond (.tmp 51) [] (.seq (.reg A24r8 [2]) .ret) [0, 3] .skip))
abbrev A24r10 : List AIns := [⟨(some 19), (.mv (.tmp 3)), none⟩, ⟨(some 20), (.bin .add (.tmp 19) (.cst (.int .i64 1))), none⟩, ⟨(some 3), (.mv (.tmp 20)), none⟩]
abbrev A24l5 : ACode := (.seq (.seq (.reg A24r6 [0, 3, 18]) (.cond (.tmp 18) [0, 3] .skip [0] (.exit 0))) (.seq (.block 1 A24c9) (.reg A24r10 [0, 3])))
abbrev A24r11 : List AIns := [⟨(some 4), (.mv (.cst (.int .i64 0))), none⟩]
abbrev A24r13 : List AIns := [⟨(some 52), (.mv (.tmp 4)), none⟩, ⟨(some 53), (.mv (.tmp 0)), none⟩, ⟨(some 54), (.len (.tmp 53)), none⟩, ⟨(some 55), (.bin .lss (.tmp 52) (.tmp 54)), none⟩]
abbrev A24r14 : List AIns := [⟨(some 58), (.mv (.tmp 0)), none⟩, ⟨(some 59), (.mv (.tmp 4)), none⟩, ⟨(some 60), (.iaddr 5 (.tmp 58) (.tmp 59)), none⟩, ⟨(some 61), (.faddr 1 (.tmp 60)), none⟩, ⟨(some 62), (.load false 1 (.tmp 61)), none⟩, ⟨(some 63), (.call (.fnc 35) [(.tmp 62)]), none⟩, ⟨(some 64), (.un .not (.tmp 63)), none⟩, ⟨(some 65), (.mv (.tmp 64)), none⟩, ⟨(some 66), (.mv (.tmp 0)), (some (65, false))⟩, ⟨(some 67), (.mv (.tmp 4)), (some (65, false))⟩, ⟨(some 68), (.iaddr 5 (.tmp 66) (.tmp 67)), (some (65, false))⟩, ⟨(some 69), (.faddr 2 (.tmp 68)), (some (65, false))⟩, ⟨(some 70), (.load false 1 (.tmp 69)), (some (65, false))⟩, ⟨(some 71), (.call (.fnc 35) [(.tmp 70)]), (some (65, false))⟩, ⟨(some 72), (.un .not (.tmp 71)), (some (65, false))⟩, ⟨(some 73), (.pick (.tmp 65) (.cst (.bool true)) (.tmp 72)), none⟩, ⟨(some 74), (.mv (.tmp 73)), none⟩, ⟨(some 75), (.mv (.tmp 0)), (some (74, false))⟩, ⟨(some 76), (.mv (.tmp 4)), (some (74, false))⟩, ⟨(some 77), (.iaddr 5 (.tmp 75) (.tmp 76)), (some (74, false))⟩, ⟨(some 78), (.faddr 3 (.tmp 77)), (some (74, false))⟩, ⟨(some 79), (.load false 1 (.tmp 78)), (some (74, false))⟩, ⟨(some 80), (.call (.fnc 35) [(.tmp 79)]), (some (74, false))⟩, ⟨(some 81), (.un .not (.tmp 80)), (some (74, false))⟩, ⟨(some 82), (.pick (.tmp 74) (.cst (.bool true)) (.tmp 81)), none⟩, ⟨(some 83), (.mv (.tmp 82)), none⟩, ⟨(some 84), (.mv (.tmp 0)), (some (83, false))⟩, ⟨(some 85), (.mv (.tmp 4)), (some (83, false))⟩, ⟨(some 86), (.iaddr 5 (.tmp 84) (.tmp 85)), (some (83, false))⟩, ⟨(some 87), (.faddr 4 (.tmp 86)), (some (83, false))⟩, ⟨(some 88), (.load false 1 (.tmp 87)), (some (83, false))⟩, ⟨(some 89), (.call (.fnc 35) [(.tmp 88)]), (some (83, false))⟩, ⟨(some 90), (.un .not (.tmp 89)), (some (83, false))⟩, ⟨(some 91), (.pick (.tmp 83) (.cst (.bool true)) (.tmp 90)), none⟩]
abbrev A24r15 : List AIns := [⟨(some 2), (.mv (.cst (.int .i64 2))), none⟩]
abbrev A24c16 : ACode := (.seq (.reg A24r14 [0, 4, 91]) (.cond (.tmp 91) [] (.seq (.reg A24r15 [2]) .ret) [0, 4] .skip))
abbrev A24r17 : List AIns := [⟨(some 56), (.mv (.tmp 4)), none⟩, ⟨(some 57), (.bin .add (.tmp 56) (.cst (.int .i64 1))), none⟩, ⟨(some 4), (.mv (.tmp 57)), none⟩]
abbrev A24l12 : ACode := (.seq (.seq (.reg A24r13 [0, 4, 55]) (.cond (.tmp 55) [0, 4] .skip [0] (.exit 2))) (.seq (.block 3 A24c16) (.reg A24r17 [0, 4])))
abbrev A24r18 : List AIns := [⟨(some 92), (.mv (.tmp 0)), none⟩, ⟨(some 93), (.iaddr 5 (.tmp 92) (.cst (.int .i64 0))), none⟩, ⟨(some 94), (.faddr 2 (.tmp 93)), none⟩, ⟨(some 95), (.load false 1 (.tmp 94)), none⟩, ⟨(some 96), (.bin .neq (.tmp 95) (.cst (.int .i64 0))), none⟩, ⟨(some 97), (.mv (.tmp 96)), none⟩, ⟨(some 98), (.mv (.tmp 0)), (some (97, false))⟩, ⟨(some 99), (.iaddr 5 (.tmp 98) (.cst (.int .i64 0))), (some (97, false))⟩, ⟨(some 100), (.faddr 3 (.tmp 99)), (some (97, false))⟩, ⟨(some 101), (.load false 1 (.tmp 100)), (some (97, false))⟩, ⟨(some 102), (.bin .neq (.tmp 101) (.cst (.int .i64 0))), (some (97, false))⟩, ⟨(some 103), (.pick (.tmp 97) (.cst (.bool true)) (.tmp 102)), none⟩]
abbrev A24r19 : List AIns := [⟨(some 2), (.mv (.cst (.int .i64 2))), none⟩]
abbrev A24r20 : List AIns := [⟨(some 5), (.mv (.cst (.int .i64 0))), none⟩]
abbrev A24r22 : List AIns := [⟨(some 104), (.mv (.tmp 5)), none⟩, ⟨(some 105), (.mv (.tmp 0)), none⟩, ⟨(some 106), (.len (.tmp 105)), none⟩, ⟨(some 107), (.bin .lss (.tmp 104) (.tmp 106)), none⟩]
abbrev A24d23 : List AIns := [⟨(some 110), (.mv (.tmp 0)), none⟩, ⟨(some 111), (.mv (.tmp 5)), none⟩, ⟨(some 112), (.iaddr 5 (.tmp 110) (.tmp 111)), none⟩, ⟨(some 113), (.faddr 1 (.tmp 112)), none⟩, ⟨(some 114), (.load false 1 (.tmp 113)), none⟩, ⟨(some 115), (.mv (.tmp 0)), none⟩, ⟨(some 116), (.mv (.tmp 5)), none⟩, ⟨(some 117), (.iaddr 5 (.tmp 115) (.tmp 116)), none⟩, ⟨(some 118), (.faddr 4 (.tmp 117)), none⟩, ⟨(some 119), (.load false 1 (.tmp 118)), none⟩, ⟨(some 120), (.bin .gtr (.tmp 114) (.tmp 119)), none⟩]
abbrev A24r24 : List AIns := [⟨(some 2), (.mv (.cst (.int .i64 17))), none⟩]
abbrev A24c25 : ACode := (.seq (.dreg A24d23 [[], [], [0, 1], [0, 1, 2], [0, 1, 2, 3], [], [], [5, 6], [5, 6, 7], [5, 6, 7, 8], [0, 1, 2, 3, 4, 5, 6, 7, 8, 9]] [0, 5, 120]) (.cond (.tmp 120) [] (.seq (.reg A24r24 [2]) .ret) [0, 5] .skip))
abbrev A24r26 : List AIns := [⟨(some 108), (.mv (.tmp 5)), none⟩, ⟨(some 109), (.bin .add (.tmp 108) (.cst (.int .i64 1))), none⟩, ⟨(some 5), (.mv (.tmp 109)), none⟩]
abbrev A24l21 : ACode := (.seq (.seq (.reg A24r22 [0, 5, 107]) (.cond (.tmp 107) [0, 5] .skip [0] (.exit 4))) (.seq (.block 5 A24c25) (.reg A24r26 [0, 5])))
abbrev A24r27 : List AIns := [⟨(some 6), (.mv (.cst (.int .i64 0))), none⟩]
abbrev A24r29 : List AIns := [⟨(some 121), (.mv (.tmp 6)), none⟩, ⟨(some 122), (.mv (.tmp 0)), none⟩, ⟨(some 123), (.len (.tmp 122)), none⟩, ⟨(some 124), (.bin .lss (.tmp 121) (.tmp 123)), none⟩]
abbrev A24d30 : List AIns := [⟨(some 127), (.mv (.tmp 0)), none⟩, ⟨(some 128), (.mv (.tmp 6)), none⟩, ⟨(some 129), (.iaddr 5 (.tmp 127) (.tmp 128)), none⟩, ⟨(some 130), (.faddr 1 (.tmp 129)), none⟩, ⟨(some 131), (.load false 1 (.tmp 130)), none⟩, ⟨(some 132), (.mv (.tmp 0)), none⟩, ⟨(some 133), (.mv (.tmp 6)), none⟩, ⟨(some 134), (.call (.fnc 36) [(.tmp 132), (.tmp 133)]), none⟩, ⟨(some 135), (.bin .lss (.tmp 131) (.tmp 134)), none⟩]
abbrev A24r31 : List AIns := [⟨(some 2), (.mv (.cst (.int .i64 11))), none⟩]
abbrev A24c32 : ACode := (.seq (.dreg A24d30 [[], [], [0, 1], [0, 1, 2], [0, 1, 2, 3], [], [], [5, 6], [0, 1, 2, 3, 4, 5, 6, 7]] [0, 6, 135]) (.cond (.tmp 135) [] (.seq (.reg A24r31 [2]) .ret) [0, 6] .skip))
abbrev A24r33 : List AIns := [⟨(some 125), (.mv (.tmp 6)), none⟩, ⟨(some 126), (.bin .add (.tmp 125) (.cst (.int .i64 1))), none⟩, ⟨(some 6), (.mv (.tmp 126)), none⟩]
abbrev A24l28 : ACode := (.seq (.seq (.reg A24r29 [0, 6, 124]) (.cond (.tmp 124) [0, 6] .skip [] (.exit 6))) (.seq (.block 7 A24c32) (.reg A24r33 [0, 6])))
abbrev A24r34 : List AIns := [⟨(some 2), (.mv (.cst (.int .i64 0))), none⟩]
def A24 : AFun := ⟨136, 1, [(.tmp 2)], (.seq (.reg A24r1 [0]) (.seq (.seq (.reg A24r2 [0, 14]) (.cond (.tmp 14) [] (.seq (.reg A24r3 [2]) .ret) [0] .skip)) (.seq (.seq (.reg A24r4 [0, 3]) (.block 0 (.loop A24l5))) (.seq (.seq (.reg A24r11 [0, 4]) (.block 2 (.loop A24l12))) (.seq (.seq (.reg A24r18 [0, 103]) (.cond (.tmp 103) [] (.seq (.reg A24r19 [2]) .ret) [0] .skip)) (.seq (.seq (.reg A24r20 [0, 5]) (.block 4 (.loop A24l21))) (.seq (.seq (.reg A24r27 [0, 6]) (.block 6 (.loop A24l28))) (.seq (.reg A24r34 [2]) .ret))))))))⟩
theorem A24c : compF Try.prog Try.f24 = some A24 := by kernel_rfl
theorem A24k : Callable Try.prog 24 := fun a w => Try.call24 a w
theorem A24p {ds : List D} {r : D} (hl : ds.length ≤ A24.nt) (hw : W Try.prog A24.code (Fin A24.results r) ⟨argEnv 0 ds, fun _ => none⟩) : PCon Try.prog 24 ds r := pcon_of_W mixed Try.func24 A24k A24c hl hw
/- estovers/estoversref19.Own -/
abbrev A25r1 : List AIns := [⟨(some 4), (.mv (.cst (.int .i64 0))), none⟩]
abbrev A25r2 : List AIns := [⟨(some 5), (.mv (.tmp 0)), none⟩, ⟨(some 6), (.mv (.tmp 1)), none⟩, ⟨(some 7), (.call (.fnc 37) [(.tmp 5), (.tmp 6)]), none⟩, ⟨(some 8), (.un .not (.tmp 7)), none⟩]
abbrev A25r3 : List AIns := [⟨(some 4), (.mv (.cst (.int .i64 (-1)))), none⟩]
abbrev A25d4 : List AIns := [⟨(some 9), (.mv (.tmp 0)), none⟩, ⟨(some 10), (.mv (.tmp 1)), none⟩, ⟨(some 11), (.iaddr 5 (.tmp 9) (.tmp 10)), none⟩, ⟨(some 12), (.faddr 1 (.tmp 11)), none⟩, ⟨(some 13), (.load false 1 (.tmp 12)), none⟩, ⟨(some 14), (.mv (.tmp 0)), none⟩, ⟨(some 15), (.mv (.tmp 1)), none⟩, ⟨(some 16), (.call (.fnc 36) [(.tmp 14), (.tmp 15)]), none⟩, ⟨(some 17), (.bin .sub (.tmp 13) (.tmp 16)), none⟩, ⟨(some 4), (.mv (.tmp 17)), none⟩]
def A25 : AFun := ⟨18, 2, [(.tmp 4)], (.seq (.reg A25r1 [0, 1]) (.seq (.seq (.reg A25r2 [0, 1, 8]) (.cond (.tmp 8) [] (.seq (.reg A25r3 [4]) .ret) [0, 1] .skip)) (.seq (.dreg A25d4 [[], [], [0, 1], [0, 1, 2], [0, 1, 2, 3], [], [], [5, 6], [0, 1, 2, 3, 4, 5, 6, 7], [0, 1, 2, 3, 4, 5, 6, 7, 8]] [4]) .ret)))⟩
theorem A25c : compF Try.prog Try.f25 = some A25 := by kernel_rfl
theorem A25k : Callable Try.prog 25 := fun a w => Try.call25 a w
theorem A25p {ds : List D} {r : D} (hl : ds.length ≤ A25.nt) (hw : W Try.prog A25.code (Fin A25.results r) ⟨argEnv 0 ds, fun _ => none⟩) : PCon Try.prog 25 ds r := pcon_of_W mixed Try.func25 A25k A25c hl hw
/- estovers/estoversref19.Inside -/
abbrev A26r1 : List AIns := [⟨(some 6), (.mv (.cst (.bool false))), none⟩]
abbrev A26r2 : List AIns := [⟨(some 9), (.mv (.tmp 0)), none⟩, ⟨(some 10), (.mv (.tmp 1)), none⟩, ⟨(some 11), (.call (.fnc 37) [(.tmp 9), (.tmp 10)]), none⟩, ⟨(some 12), (.un .not (.tmp 11)), none⟩]
abbrev A26r3 : List AIns := [⟨(some 6), (.mv (.cst (.bool false))), none⟩]
abbrev A26r4 : List AIns := [⟨(some 13), (.mv (.tmp 2)), none⟩, ⟨(some 14), (.bin .eql (.tmp 13) (.cst (.int .i64 (-1)))), none⟩]
abbrev A26r5 : List AIns := [⟨(some 6), (.mv (.cst (.bool true))), none⟩]
abbrev A26r6 : List AIns := [⟨(some 15), (.mv (.tmp 0)), none⟩, ⟨(some 16), (.mv (.tmp 1)), none⟩, ⟨(some 17), (.call (.fnc 38) [(.tmp 15), (.tmp 16)]), none⟩, ⟨(some 7), (.mv (.tmp 17)), none⟩]
abbrev A26r7 : List AIns := [⟨(some 8), (.mv (.cst (.int .i64 0))), none⟩]
abbrev A26r9 : List AIns := [⟨(some 18), (.mv (.tmp 8)), none⟩, ⟨(some 19), (.mv (.tmp 7)), none⟩, ⟨(some 20), (.len (.tmp 19)), none⟩, ⟨(some 21), (.bin .lss (.tmp 18) (.tmp 20)), none⟩]
abbrev A26r10 : List AIns := [⟨(some 24), (.mv (.tmp 7)), none⟩, ⟨(some 25), (.mv (.tmp 8)), none⟩, ⟨(some 26), (.iaddr 1 (.tmp 24) (.tmp 25)), none⟩, ⟨(some 27), (.load false 1 (.tmp 26)), none⟩, ⟨(some 28), (.mv (.tmp 2)), none⟩, ⟨(some 29), (.bin .eql (.tmp 27) (.tmp 28)), none⟩]
abbrev A26r11 : List AIns := [⟨(some 6), (.mv (.cst (.bool true))), none⟩]
abbrev A26c12 : ACode := (.seq (.reg A26r10 [2, 7, 8, 29]) (.cond (.tmp 29) [] (.seq (.reg A26r11 [6]) .ret) [2, 7, 8] .skip))
abbrev A26r13 : List AIns := [⟨(some 22), (.mv (.tmp 8)), none⟩, ⟨(some 23), (.bin .add (.tmp 22) (.cst (.int .i64 1))), none⟩, ⟨(some 8), (.mv (.tmp 23)), none⟩]
abbrev A26l8 : ACode := (.seq (.seq (.reg A26r9 [2, 7, 8, 21]) (.cond (.tmp 21) [2, 7, 8] .skip [] (.exit 0))) (.seq (.block 1 A26c12) (.reg A26r13 [2, 7, 8])))
abbrev A26r14 : List AIns := [⟨(some 6), (.mv (.cst (.bool false))), none⟩]
def A26 : AFun := ⟨30, 3, [(.tmp 6)], (.seq (.reg A26r1 [0, 1, 2]) (.seq (.seq (.reg A26r2 [0, 1, 2, 12]) (.cond (.tmp 12) [] (.seq (.reg A26r3 [6]) .ret) [0, 1, 2] .skip)) (.seq (.seq (.reg A26r4 [0, 1, 2, 14]) (.cond (.tmp 14) [] (.seq (.reg A26r5 [6]) .ret) [0, 1, 2] .skip)) (.seq (.reg A26r6 [2, 7]) (.seq (.seq (.reg A26r7 [2, 7, 8]) (.block 0 (.loop A26l8))) (.seq (.reg A26r14 [6]) .ret))))))⟩
theorem A26c : compF Try.prog Try.f26 = some A26 := by kernel_rfl
theorem A26k : Callable Try.prog 26 := fun a w => Try.call26 a w
theorem A26p {ds : List D} {r : D} (hl : ds.length ≤ A26.nt) (hw : W Try.prog A26.code (Fin A26.results r) ⟨argEnv 0 ds, fun _ => none⟩) : PCon Try.prog 26 ds r := pcon_of_W mixed Try.func26 A26k A26c hl hw
/- estovers/estoverslaw20.example -/
abbrev A27r1 : List AIns := [⟨(some 0), (.mv (.cst .nil)), none⟩]
abbrev A27r2 : List AIns := [⟨(some 1), (.build [(.int .i64 0), (.int .i64 0), (.int .i64 0), (.int .i64 0), (.int .i64 0)] [(0, (1, (.cst (.int .i64 (-1))))), (1, (1, (.cst (.int .i64 10)))), (4, (1, (.cst (.int .i64 20))))]), none⟩, ⟨(some 2), (.build [(.int .i64 0), (.int .i64 0), (.int .i64 0), (.int .i64 0), (.int .i64 0)] [(0, (1, (.cst (.int .i64 0)))), (1, (1, (.cst (.int .i64 6)))), (2, (1, (.cst (.int .i64 4)))), (4, (1, (.cst (.int .i64 20))))]), none⟩, ⟨(some 3), (.build [(.int .i64 0), (.int .i64 0), (.int .i64 0), (.int .i64 0), (.int .i64 0)] [(0, (1, (.cst (.int .i64 0)))), (1, (1, (.cst (.int .i64 4)))), (2, (1, (.cst (.int .i64 4)))), (4, (1, (.cst (.int .i64 20))))]), none⟩, ⟨(some 4), (.build [(.int .i64 0), (.int .i64 0), (.int .i64 0), (.int .i64 0), (.int .i64 0)] [(0, (1, (.cst (.int .i64 1)))), (1, (1, (.cst (.int .i64 5)))), (2, (1, (.cst (.int .i64 3)))), (4, (1, (.cst (.int .i64 20))))]), none⟩, ⟨(some 5), (.buildS 5 [(.int .i64 0), (.int .i64 0), (.int .i64 0), (.int .i64 0), (.int .i64 0)] 4 [(0, (5, (.tmp 1))), (5, (5, (.tmp 2))), (10, (5, (.tmp 3))), (15, (5, (.tmp 4)))]), none⟩, ⟨(some 0), (.mv (.tmp 5)), none⟩]
def A27 : AFun := ⟨6, 0, [(.tmp 0)], (.seq (.reg A27r1 []) (.seq (.reg A27r2 [0]) .ret))⟩
theorem A27c : compF Try.prog Try.f27 = some A27 := by kernel_rfl
theorem A27k : Callable Try.prog 27 := fun a w => Try.call27 a w
theorem A27p {ds : List D} {r : D} (hl : ds.length ≤ A27.nt) (hw : W Try.prog A27.code (Fin A27.results r) ⟨argEnv 0 ds, fun _ => none⟩) : PCon Try.prog 27 ds r := pcon_of_W mixed Try.func27 A27k A27c hl hw
/- estovers/accounts.Check -/
abbrev A28r1 : List AIns := [⟨(some 2), (.mv (.cst (.int .i64 0))), none⟩]
abbrev A28r2 : List AIns := [⟨(some 4), (.mv (.tmp 0)), none⟩, ⟨(some 5), (.len (.tmp 4)), none⟩, ⟨(some 6), (.bin .lss (.tmp 5) (.cst (.int .i64 1))), none⟩, ⟨(some 7), (.mv (.tmp 6)), none⟩, ⟨(some 8), (.mv (.tmp 0)), (some (7, false))⟩, ⟨(some 9), (.len (.tmp 8)), (some (7, false))⟩, ⟨(some 10), (.bin .gtr (.tmp 9) (.cst (.int .i64 8))), (some (7, false))⟩, ⟨(some 11), (.pick (.tmp 7) (.cst (.bool true)) (.tmp 10)), none⟩, ⟨(some 3), (.mv (.tmp 11)), none⟩]
abbrev A28r3 : List AIns := [⟨(some 2), (.mv (.cst (.int .i64 9))), none⟩]
abbrev A28r4 : List AIns := [⟨(some 13), (.mv (.tmp 0)), none⟩, ⟨(some 14), (.call (.fnc 39) [(.tmp 13)]), none⟩, ⟨(some 15), (.un .not (.tmp 14)), none⟩, ⟨(some 12), (.mv (.tmp 15)), none⟩]
abbrev A28r5 : List AIns := [⟨(some 2), (.mv (.cst (.int .i64 1))), none⟩]
abbrev A28r6 : List AIns := [⟨(some 17), (.mv (.tmp 0)), none⟩, ⟨(some 18), (.call (.fnc 40) [(.tmp 17)]), none⟩, ⟨(some 19), (.un .not (.tmp 18)), none⟩, ⟨(some 16), (.mv (.tmp 19)), none⟩]
abbrev A28r7 : List AIns := [⟨(some 2), (.mv (.cst (.int .i64 2))), none⟩]
abbrev A28r8 : List AIns := [⟨(some 21), (.mv (.tmp 0)), none⟩, ⟨(some 22), (.call (.fnc 41) [(.tmp 21), (.fnc 42)]), none⟩, ⟨(some 20), (.mv (.tmp 22)), none⟩]
abbrev A28r9 : List AIns := [⟨(some 2), (.mv (.cst (.int .i64 17))), none⟩]
abbrev A28r10 : List AIns := [⟨(some 24), (.mv (.tmp 0)), none⟩, ⟨(some 25), (.call (.fnc 44) [(.tmp 24)]), none⟩, ⟨(some 26), (.call (.fnc 43) [(.tmp 25)]), none⟩, ⟨(some 27), (.bin .lss (.tmp 26) (.cst (.int .i64 0))), none⟩, ⟨(some 23), (.mv (.tmp 27)), none⟩]
abbrev A28r11 : List AIns := [⟨(some 2), (.mv (.cst (.int .i64 11))), none⟩]
abbrev A28c12 : ACode := (.seq (.reg A28r10 [23]) (.cond (.tmp 23) [] (.seq (.reg A28r11 [2]) .ret) [] .skip))
abbrev A28c13 : ACode := (.seq (.reg A28r8 [0, 20]) (.cond (.tmp 20) [] (.seq (.reg A28r9 [2]) .ret) [0] A28c12))
abbrev A28c14 : ACode := (.seq (.reg A28r6 [0, 16]) (.cond (.tmp 16) [] (.seq (.reg A28r7 [2]) .ret) [0] A28c13))
abbrev A28c15 : ACode := (.seq (.reg A28r4 [0, 12]) (.cond (.tmp 12) [] (.seq (.reg A28r5 [2]) .ret) [0] A28c14))
abbrev A28c16 : ACode := (.seq (.reg A28r2 [0, 3]) (.cond (.tmp 3) [] (.seq (.reg A28r3 [2]) .ret) [0] A28c15))
abbrev A28r17 : List AIns := [⟨(some 2), (.mv (.cst (.int .i64 0))), none⟩]
def A28 : AFun := ⟨28, 1, [(.tmp 2)], (.seq (.reg A28r1 [0]) (.seq (.block 0 A28c16) (.seq (.reg A28r17 [2]) .ret)))⟩
theorem A28c : compF Try.prog Try.f28 = some A28 := by kernel_rfl
theorem A28k : Callable Try.prog 28 := fun a w => Try.call28 a w
theorem A28p {ds : List D} {r : D} (hl : ds.length ≤ A28.nt) (hw : W Try.prog A28.code (Fin A28.results r) ⟨argEnv 0 ds, fun _ => none⟩) : PCon Try.prog 28 ds r := pcon_of_W mixed Try.func28 A28k A28c hl hw
/- estovers/protection.Effective$1 -/
abbrev A29r1 : List AIns := [⟨(some 3), (.mv (.cst (.int .i64 0))), none⟩]
abbrev A29d2 : List AIns := [⟨(some 4), (.load false 1 (.tmp 1)), none⟩, ⟨(some 5), (.mv (.tmp 0)), none⟩, ⟨(some 6), (.iaddr 5 (.tmp 4) (.tmp 5)), none⟩, ⟨(some 7), (.faddr 2 (.tmp 6)), none⟩, ⟨(some 8), (.load false 1 (.tmp 7)), none⟩, ⟨(some 9), (.load false 1 (.tmp 1)), none⟩, ⟨(some 10), (.mv (.tmp 0)), none⟩, ⟨(some 11), (.iaddr 5 (.tmp 9) (.tmp 10)), none⟩, ⟨(some 12), (.faddr 1 (.tmp 11)), none⟩, ⟨(some 13), (.load false 1 (.tmp 12)), none⟩, ⟨(some 14), (.mima false [(.tmp 8), (.tmp 13)]), none⟩, ⟨(some 3), (.mv (.tmp 14)), none⟩]
def A29 : AFun := ⟨15, 2, [(.tmp 3)], (.seq (.reg A29r1 [0, 1]) (.seq (.dreg A29d2 [[], [], [0, 1], [0, 1, 2], [0, 1, 2, 3], [], [], [5, 6], [5, 6, 7], [5, 6, 7, 8], [0, 1, 2, 3, 4, 5, 6, 7, 8, 9], [0, 1, 2, 3, 4, 5, 6, 7, 8, 9, 10]] [3]) .ret))⟩
theorem A29c : compF Try.prog Try.f29 = some A29 := by kernel_rfl
theorem A29k : Callable Try.prog 29 := fun a w => Try.call29 a w
theorem A29p {ds : List D} {r : D} (hl : ds.length ≤ A29.nt) (hw : W Try.prog A29.code (Fin A29.results r) ⟨argEnv 0 ds, fun _ => none⟩) : PCon Try.prog 29 ds r := pcon_of_W mixed Try.func29 A29k A29c hl hw
/- estovers/protection.valid -/
abbrev A30r1 : List AIns := [⟨(some 4), (.mv (.cst (.bool false))), none⟩]
abbrev A30r2 : List AIns := [⟨(some 7), (.mv (.tmp 0)), none⟩, ⟨(some 8), (.call (.fnc 28) [(.tmp 7)]), none⟩, ⟨(some 9), (.bin .neq (.tmp 8) (.cst (.int .i64 0))), none⟩, ⟨(some 10), (.mv (.tmp 9)), none⟩, ⟨(some 11), (.mv (.tmp 1)), (some (10, false))⟩, ⟨(some 12), (.len (.tmp 11)), (some (10, false))⟩, ⟨(some 13), (.mv (.tmp 0)), (some (10, false))⟩, ⟨(some 14), (.len (.tmp 13)), (some (10, false))⟩, ⟨(some 15), (.bin .neq (.tmp 12) (.tmp 14)), (some (10, false))⟩, ⟨(some 16), (.pick (.tmp 10) (.cst (.bool true)) (.tmp 15)), none⟩]
abbrev A30r3 : List AIns := [⟨(some 4), (.mv (.cst (.bool false))), none⟩]
abbrev A30r4 : List AIns := [⟨(some 17), (.mv (.tmp 1)), none⟩, ⟨(some 18), (.len (.tmp 17)), none⟩, ⟨(some 19), (.mv (.cst (.int .i64 0))), none⟩]
abbrev A30r6 : List AIns := [⟨(some 20), (.bin .lss (.tmp 19) (.tmp 18)), none⟩]
abbrev A30r7 : List AIns := [⟨(some 21), (.iaddr 1 (.tmp 17) (.tmp 19)), none⟩, ⟨(some 22), (.load false 1 (.tmp 21)), none⟩, ⟨(some 6), (.mv (.tmp 22)), none⟩]
abbrev A30r8 : List AIns := [⟨(some 23), (.mv (.tmp 6)), none⟩, ⟨(some 24), (.bin .lss (.tmp 23) (.cst (.int .i64 0))), none⟩, ⟨(some 25), (.mv (.tmp 24)), none⟩, ⟨(some 26), (.mv (.tmp 6)), (some (25, false))⟩, ⟨(some 27), (.bin .gtr (.tmp 26) (.cst (.int .i64 1048576))), (some (25, false))⟩, ⟨(some 28), (.pick (.tmp 25) (.cst (.bool true)) (.tmp 27)), none⟩]
abbrev A30r9 : List AIns := [⟨(some 4), (.mv (.cst (.bool false))), none⟩]
abbrev A30c10 : ACode := (.seq (.reg A30r7 [6, 17, 18, 19]) (.seq (.reg A30r8 [17, 18, 19, 28]) (.cond (.tmp 28) [] (.seq (.reg A30r9 [4]) .ret) [17, 18, 19] .skip)))
abbrev A30r11 : List AIns := [⟨(some 29), (.bin .add (.tmp 19) (.cst (.int .i64 1))), none⟩, ⟨(some 19), (.mv (.tmp 29)), none⟩]
abbrev A30l5 : ACode := (.seq (.reg A30r6 [17, 18, 19, 20]) (.seq (.cond (.tmp 20) [17, 18, 19] .skip [] (.exit 0)) (.seq (.block 1 A30c10) (.reg A30r11 [17, 18, 19]))))
abbrev A30r12 : List AIns := [⟨(some 4), (.mv (.cst (.bool true))), none⟩]
def A30 : AFun := ⟨30, 2, [(.tmp 4)], (.seq (.reg A30r1 [0, 1]) (.seq (.seq (.reg A30r2 [1, 16]) (.cond (.tmp 16) [] (.seq (.reg A30r3 [4]) .ret) [1] .skip)) (.seq (.seq (.reg A30r4 [17, 18, 19]) (.block 0 (.loop A30l5))) (.seq (.reg A30r12 [4]) .ret))))⟩
theorem A30c : compF Try.prog Try.f30 = some A30 := by kernel_rfl
theorem A30k : Callable Try.prog 30 := fun a w => Try.call30 a w
theorem A30p {ds : List D} {r : D} (hl : ds.length ≤ A30.nt) (hw : W Try.prog A30.code (Fin A30.results r) ⟨argEnv 0 ds, fun _ => none⟩) : PCon Try.prog 30 ds r := pcon_of_W mixed Try.func30 A30k A30c hl hw
/- estovers/protection.inside -/
abbrev A31r1 : List AIns := [⟨(some 4), (.mv (.cst .nil)), none⟩]
abbrev A31r2 : List AIns := [⟨(some 7), (.mv (.tmp 0)), none⟩, ⟨(some 8), (.len (.tmp 7)), none⟩, ⟨(some 9), (.mkslice 1 8 [(.int .i64 0)] (.tmp 8) (.tmp 8)), none⟩, ⟨(some 5), (.mv (.tmp 9)), none⟩]
abbrev A31r3 : List AIns := [⟨(some 10), (.mv (.tmp 0)), none⟩, ⟨(some 11), (.len (.tmp 10)), none⟩, ⟨(some 12), (.bin .sub (.tmp 11) (.cst (.int .i64 1))), none⟩, ⟨(some 6), (.mv (.tmp 12)), none⟩]
abbrev A31r5 : List AIns := [⟨(some 13), (.mv (.tmp 6)), none⟩, ⟨(some 14), (.bin .geq (.tmp 13) (.cst (.int .i64 0))), none⟩]
abbrev A31d6 : List AIns := [⟨(some 17), (.mv (.tmp 5)), none⟩, ⟨(some 18), (.mv (.tmp 6)), none⟩, ⟨(some 19), (.iaddr 1 (.tmp 17) (.tmp 18)), none⟩, ⟨(some 20), (.load false 1 (.tmp 19)), none⟩, ⟨(some 21), (.mv (.tmp 1)), none⟩, ⟨(some 22), (.mv (.tmp 6)), none⟩, ⟨(some 23), (.iaddr 1 (.tmp 21) (.tmp 22)), none⟩, ⟨(some 24), (.load false 1 (.tmp 23)), none⟩, ⟨(some 25), (.bin .add (.tmp 20) (.tmp 24)), none⟩, ⟨(some 26), (.iaddr 1 (.tmp 17) (.tmp 18)), none⟩, ⟨none, (.store 1 (.tmp 26) (.tmp 25)), none⟩]
abbrev A31d6p : List AIns := [⟨(some 17), (.mv (.tmp 5)), none⟩, ⟨(some 18), (.mv (.tmp 6)), none⟩, ⟨(some 19), (.iaddr 1 (.tmp 17) (.tmp 18)), none⟩, ⟨(some 20), (.load false 1 (.tmp 19)), none⟩, ⟨(some 21), (.mv (.tmp 1)), none⟩, ⟨(some 22), (.mv (.tmp 6)), none⟩, ⟨(some 23), (.iaddr 1 (.tmp 21) (.tmp 22)), none⟩, ⟨(some 24), (.load false 1 (.tmp 23)), none⟩, ⟨(some 25), (.bin .add (.tmp 20) (.tmp 24)), none⟩, ⟨(some 26), (.iaddr 1 (.tmp 17) (.tmp 18)), none⟩]
abbrev A31r7 : List AIns := [⟨(some 27), (.mv (.tmp 6)), none⟩, ⟨(some 28), (.bin .gtr (.tmp 27) (.cst (.int .i64 0))), none⟩]
abbrev A31d8 : List AIns := [⟨(some 29), (.mv (.tmp 5)), none⟩, ⟨(some 30), (.mv (.tmp 0)), none⟩, ⟨(some 31), (.mv (.tmp 6)), none⟩, ⟨(some 32), (.iaddr 5 (.tmp 30) (.tmp 31)), none⟩, ⟨(some 33), (.faddr 0 (.tmp 32)), none⟩, ⟨(some 34), (.load false 1 (.tmp 33)), none⟩, ⟨(some 35), (.iaddr 1 (.tmp 29) (.tmp 34)), none⟩, ⟨(some 36), (.load false 1 (.tmp 35)), none⟩, ⟨(some 37), (.mv (.tmp 5)), none⟩, ⟨(some 38), (.mv (.tmp 6)), none⟩, ⟨(some 39), (.iaddr 1 (.tmp 37) (.tmp 38)), none⟩, ⟨(some 40), (.load false 1 (.tmp 39)), none⟩, ⟨(some 41), (.bin .add (.tmp 36) (.tmp 40)), none⟩, ⟨(some 42), (.iaddr 1 (.tmp 29) (.tmp 34)), none⟩, ⟨none, (.store 1 (.tmp 42) (.tmp 41)), none⟩]
abbrev A31d8p : List AIns := [⟨(some 29), (.mv (.tmp 5)), none⟩, ⟨(some 30), (.mv (.tmp 0)), none⟩, ⟨(some 31), (.mv (.tmp 6)), none⟩, ⟨(some 32), (.iaddr 5 (.tmp 30) (.tmp 31)), none⟩, ⟨(some 33), (.faddr 0 (.tmp 32)), none⟩, ⟨(some 34), (.load false 1 (.tmp 33)), none⟩, ⟨(some 35), (.iaddr 1 (.tmp 29) (.tmp 34)), none⟩, ⟨(some 36), (.load false 1 (.tmp 35)), none⟩, ⟨(some 37), (.mv (.tmp 5)), none⟩, ⟨(some 38), (.mv (.tmp 6)), none⟩, ⟨(some 39), (.iaddr 1 (.tmp 37) (.tmp 38)), none⟩, ⟨(some 40), (.load false 1 (.tmp 39)), none⟩, ⟨(some 41), (.bin .add (.tmp 36) (.tmp 40)), none⟩, ⟨(some 42), (.iaddr 1 (.tmp 29) (.tmp 34)), none⟩]
abbrev A31c9 : ACode := (.dreg A31d8 [[], [], [], [1, 2], [1, 2, 3], [1, 2, 3, 4], [0, 1, 2, 3, 4, 5], [0, 1, 2, 3, 4, 5, 6], [], [], [8, 9], [8, 9, 10], [0, 1, 2, 3, 4, 5, 6, 7, 8, 9, 10, 11], [0, 1, 2, 3, 4, 5, 6, 7, 8, 9, 10, 11, 12], [0, 1, 2, 3, 4, 5, 6, 7, 8, 9, 10, 11, 12, 13]] [0, 1, 5, 6])
abbrev A31c10 : ACode := (.seq (.dreg A31d6 [[], [], [0, 1], [0, 1, 2], [], [], [4, 5], [4, 5, 6], [0, 1, 2, 3, 4, 5, 6, 7], [0, 1, 2, 3, 4, 5, 6, 7, 8], [0, 1, 2, 3, 4, 5, 6, 7, 8, 9]] [0, 1, 5, 6]) (.seq (.reg A31r7 [0, 1, 5, 6, 28]) (.cond (.tmp 28) [0, 1, 5, 6] A31c9 [0, 1, 5, 6] .skip)))
abbrev A31r11 : List AIns := [⟨(some 15), (.mv (.tmp 6)), none⟩, ⟨(some 16), (.bin .sub (.tmp 15) (.cst (.int .i64 1))), none⟩, ⟨(some 6), (.mv (.tmp 16)), none⟩]
abbrev A31l4 : ACode := (.seq (.seq (.reg A31r5 [0, 1, 5, 6, 14]) (.cond (.tmp 14) [0, 1, 5, 6] .skip [5] (.exit 0))) (.seq (.block 1 A31c10) (.reg A31r11 [0, 1, 5, 6])))
abbrev A31r12 : List AIns := [⟨(some 43), (.mv (.tmp 5)), none⟩, ⟨(some 4), (.mv (.tmp 43)), none⟩]
def A31 : AFun := ⟨44, 2, [(.tmp 4)], (.seq (.reg A31r1 [0, 1]) (.seq (.reg A31r2 [0, 1, 5]) (.seq (.seq (.reg A31r3 [0, 1, 5, 6]) (.block 0 (.loop A31l4))) (.seq (.reg A31r12 [4]) .ret))))⟩
theorem A31c : compF Try.prog Try.f31 = some A31 := by kernel_rfl
theorem A31k : Callable Try.prog 31 := fun a w => Try.call31 a w
theorem A31p {ds : List D} {r : D} (hl : ds.length ≤ A31.nt) (hw : W Try.prog A31.code (Fin A31.results r) ⟨argEnv 0 ds, fun _ => none⟩) : PCon Try.prog 31 ds r := pcon_of_W mixed Try.func31 A31k A31c hl hw
/- estovers/estoversref20.valid -/
abbrev A32r1 : List AIns := [⟨(some 4), (.mv (.cst (.bool false))), none⟩]
abbrev A32r2 : List AIns := [⟨(some 6), (.mv (.tmp 0)), none⟩, ⟨(some 7), (.call (.fnc 24) [(.tmp 6)]), none⟩, ⟨(some 8), (.bin .neq (.tmp 7) (.cst (.int .i64 0))), none⟩, ⟨(some 9), (.mv (.tmp 8)), none⟩, ⟨(some 10), (.mv (.tmp 1)), (some (9, false))⟩, ⟨(some 11), (.len (.tmp 10)), (some (9, false))⟩, ⟨(some 12), (.mv (.tmp 0)), (some (9, false))⟩, ⟨(some 13), (.len (.tmp 12)), (some (9, false))⟩, ⟨(some 14), (.bin .neq (.tmp 11) (.tmp 13)), (some (9, false))⟩, ⟨(some 15), (.pick (.tmp 9) (.cst (.bool true)) (.tmp 14)), none⟩]
abbrev A32r3 : List AIns := [⟨(some 4), (.mv (.cst (.bool false))), none⟩]
abbrev A32r4 : List AIns := [⟨(some 5), (.mv (.cst (.int .i64 0))), none⟩]
abbrev A32r6 : List AIns := [⟨(some 16), (.mv (.tmp 5)), none⟩, ⟨(some 17), (.mv (.tmp 1)), none⟩, ⟨(some 18), (.len (.tmp 17)), none⟩, ⟨(some 19), (.bin .lss (.tmp 16) (.tmp 18)), none⟩]
abbrev A32r7 : List AIns := [⟨(some 22), (.mv (.tmp 1)), none⟩, ⟨(some 23), (.mv (.tmp 5)), none⟩, ⟨(some 24), (.iaddr 1 (.tmp 22) (.tmp 23)), none⟩, ⟨(some 25), (.load false 1 (.tmp 24)), none⟩, ⟨(some 26), (.bin .lss (.tmp 25) (.cst (.int .i64 0))), none⟩, ⟨(some 27), (.mv (.tmp 26)), none⟩, ⟨(some 28), (.mv (.tmp 1)), (some (27, false))⟩, ⟨(some 29), (.mv (.tmp 5)), (some (27, false))⟩, ⟨(some 30), (.iaddr 1 (.tmp 28) (.tmp 29)), (some (27, false))⟩, ⟨(some 31), (.load false 1 (.tmp 30)), (some (27, false))⟩, ⟨(some 32), (.bin .gtr (.tmp 31) (.cst (.int .i64 1048576))), (some (27, false))⟩, ⟨(some 33), (.pick (.tmp 27) (.cst (.bool true)) (.tmp 32)), none⟩]
abbrev A32r8 : List AIns := [⟨(some 4), (.mv (.cst (.bool false))), none⟩]
abbrev A32c9 : ACode := (.seq (.reg A32r7 [1, 5, 33]) (.cond (.tmp 33) [] (.seq (.reg A32r8 [4]) .ret) [1, 5] .skip))
abbrev A32r10 : List AIns := [⟨(some 20), (.mv (.tmp 5)), none⟩, ⟨(some 21), (.bin .add (.tmp 20) (.cst (.int .i64 1))), none⟩, ⟨(some 5), (.mv (.tmp 21)), none⟩]
abbrev A32l5 : ACode := (.seq (.seq (.reg A32r6 [1, 5, 19]) (.cond (.tmp 19) [1, 5] .skip [] (.exit 0))) (.seq (.block 1 A32c9) (.reg A32r10 [1, 5])))
abbrev A32r11 : List AIns := [⟨(some 4), (.mv (.cst (.bool true))), none⟩]
def A32 : AFun := ⟨34, 2, [(.tmp 4)], (.seq (.reg A32r1 [0, 1]) (.seq (.seq (.reg A32r2 [1, 15]) (.cond (.tmp 15) [] (.seq (.reg A32r3 [4]) .ret) [1] .skip)) (.seq (.seq (.reg A32r4 [1, 5]) (.block 0 (.loop A32l5))) (.seq (.reg A32r11 [4]) .ret))))⟩
theorem A32c : compF Try.prog Try.f32 = some A32 := by kernel_rfl
theorem A32k : Callable Try.prog 32 := fun a w => Try.call32 a w
theorem A32p {ds : List D} {r : D} (hl : ds.length ≤ A32.nt) (hw : W Try.prog A32.code (Fin A32.results r) ⟨argEnv 0 ds, fun _ => none⟩) : PCon Try.prog 32 ds r := pcon_of_W mixed Try.func32 A32k A32c hl hw
/- estovers/estoversref20.inside -/
abbrev A33r1 : List AIns := [⟨(some 4), (.mv (.cst .nil)), none⟩]
abbrev A33r2 : List AIns := [⟨(some 8), (.mv (.tmp 0)), none⟩, ⟨(some 9), (.len (.tmp 8)), none⟩, ⟨(some 10), (.mkslice 1 8 [(.int .i64 0)] (.tmp 9) (.tmp 9)), none⟩, ⟨(some 5), (.mv (.tmp 10)), none⟩]
abbrev A33r3 : List AIns := [⟨(some 6), (.mv (.cst (.int .i64 0))), none⟩]
abbrev A33r5 : List AIns := [⟨(some 11), (.mv (.tmp 6)), none⟩, ⟨(some 12), (.mv (.tmp 0)), none⟩, ⟨(some 13), (.len (.tmp 12)), none⟩, ⟨(some 14), (.bin .lss (.tmp 11) (.tmp 13)), none⟩]
abbrev A33r6 : List AIns := [⟨(some 17), (.mv (.tmp 6)), none⟩, ⟨(some 7), (.mv (.tmp 17)), none⟩]
abbrev A33r8 : List AIns := [⟨(some 18), (.mv (.tmp 7)), none⟩, ⟨(some 19), (.bin .geq (.tmp 18) (.cst (.int .i64 0))), none⟩]
abbrev A33d9 : List AIns := [⟨(some 25), (.mv (.tmp 5)), none⟩, ⟨(some 26), (.mv (.tmp 7)), none⟩, ⟨(some 27), (.iaddr 1 (.tmp 25) (.tmp 26)), none⟩, ⟨(some 28), (.load false 1 (.tmp 27)), none⟩, ⟨(some 29), (.mv (.tmp 1)), none⟩, ⟨(some 30), (.mv (.tmp 6)), none⟩, ⟨(some 31), (.iaddr 1 (.tmp 29) (.tmp 30)), none⟩, ⟨(some 32), (.load false 1 (.tmp 31)), none⟩, ⟨(some 33), (.bin .add (.tmp 28) (.tmp 32)), none⟩, ⟨(some 34), (.iaddr 1 (.tmp 25) (.tmp 26)), none⟩, ⟨none, (.store 1 (.tmp 34) (.tmp 33)), none⟩]
abbrev A33d9p : List AIns := [⟨(some 25), (.mv (.tmp 5)), none⟩, ⟨(some 26), (.mv (.tmp 7)), none⟩, ⟨(some 27), (.iaddr 1 (.tmp 25) (.tmp 26)), none⟩, ⟨(some 28), (.load false 1 (.tmp 27)), none⟩, ⟨(some 29), (.mv (.tmp 1)), none⟩, ⟨(some 30), (.mv (.tmp 6)), none⟩, ⟨(some 31), (.iaddr 1 (.tmp 29) (.tmp 30)), none⟩, ⟨(some 32), (.load false 1 (.tmp 31)), none⟩, ⟨(some 33), (.bin .add (.tmp 28) (.tmp 32)), none⟩, ⟨(some 34), (.iaddr 1 (.tmp 25) (.tmp 26)), none⟩]
abbrev A33c10 : ACode := (.dreg A33d9 [[], [], [0, 1], [0, 1, 2], [], [], [4, 5], [4, 5, 6], [0, 1, 2, 3, 4, 5, 6, 7], [0, 1, 2, 3, 4, 5, 6, 7, 8], [0, 1, 2, 3, 4, 5, 6, 7, 8, 9]] [0, 1, 5, 6, 7])
abbrev A33r11 : List AIns := [⟨(some 20), (.mv (.tmp 0)), none⟩, ⟨(some 21), (.mv (.tmp 7)), none⟩, ⟨(some 22), (.iaddr 5 (.tmp 20) (.tmp 21)), none⟩, ⟨(some 23), (.faddr 0 (.tmp 22)), none⟩, ⟨(some 24), (.load false 1 (.tmp 23)), none⟩, ⟨(some 7), (.mv (.tmp 24)), none⟩]
abbrev A33l7 : ACode := (.seq (.seq (.reg A33r8 [0, 1, 5, 6, 7, 19]) (.cond (.tmp 19) [0, 1, 5, 6, 7] .skip [0, 1, 5, 6] (.exit 2))) (.seq (.block 3 A33c10) (.reg A33r11 [0, 1, 5, 6, 7])))
abbrev A33r12 : List AIns := [⟨(some 15), (.mv (.tmp 6)), none⟩, ⟨(some 16), (.bin .add (.tmp 15) (.cst (.int .i64 1))), none⟩, ⟨(some 6), (.mv (.tmp 16)), none⟩]
abbrev A33l4 : ACode := (.seq (.seq (.reg A33r5 [0, 1, 5, 6, 14]) (.cond (.tmp 14) [0, 1, 5, 6] .skip [5] (.exit 0))) (.seq (.block 1 (.seq (.reg A33r6 [0, 1, 5, 6, 7]) (.block 2 (.loop A33l7)))) (.reg A33r12 [0, 1, 5, 6])))
abbrev A33r13 : List AIns := [⟨(some 35), (.mv (.tmp 5)), none⟩, ⟨(some 4), (.mv (.tmp 35)), none⟩]
def A33 : AFun := ⟨36, 2, [(.tmp 4)], (.seq (.reg A33r1 [0, 1]) (.seq (.reg A33r2 [0, 1, 5]) (.seq (.seq (.reg A33r3 [0, 1, 5, 6]) (.block 0 (.loop A33l4))) (.seq (.reg A33r13 [4]) .ret))))⟩
theorem A33c : compF Try.prog Try.f33 = some A33 := by kernel_rfl
theorem A33k : Callable Try.prog 33 := fun a w => Try.call33 a w
theorem A33p {ds : List D} {r : D} (hl : ds.length ≤ A33.nt) (hw : W Try.prog A33.code (Fin A33.results r) ⟨argEnv 0 ds, fun _ => none⟩) : PCon Try.prog 33 ds r := pcon_of_W mixed Try.func33 A33k A33c hl hw
/- estovers/accounts.Own -/
abbrev A34r1 : List AIns := [⟨(some 4), (.mv (.cst (.int .i64 0))), none⟩]
abbrev A34r2 : List AIns := [⟨(some 5), (.mv (.tmp 0)), none⟩, ⟨(some 6), (.mv (.tmp 1)), none⟩, ⟨(some 7), (.call (.fnc 45) [(.tmp 5), (.tmp 6)]), none⟩, ⟨(some 8), (.un .not (.tmp 7)), none⟩]
abbrev A34r3 : List AIns := [⟨(some 4), (.mv (.cst (.int .i64 (-1)))), none⟩]
abbrev A34r4 : List AIns := [⟨(some 9), (.mv (.tmp 0)), none⟩, ⟨(some 10), (.call (.fnc 44) [(.tmp 9)]), none⟩, ⟨(some 11), (.mv (.tmp 1)), none⟩, ⟨(some 12), (.iaddr 1 (.tmp 10) (.tmp 11)), none⟩, ⟨(some 13), (.load false 1 (.tmp 12)), none⟩, ⟨(some 4), (.mv (.tmp 13)), none⟩]
def A34 : AFun := ⟨14, 2, [(.tmp 4)], (.seq (.reg A34r1 [0, 1]) (.seq (.seq (.reg A34r2 [0, 1, 8]) (.cond (.tmp 8) [] (.seq (.reg A34r3 [4]) .ret) [0, 1] .skip)) (.seq (.reg A34r4 [4]) .ret)))⟩
theorem A34c : compF Try.prog Try.f34 = some A34 := by kernel_rfl
theorem A34k : Callable Try.prog 34 := fun a w => Try.call34 a w
theorem A34p {ds : List D} {r : D} (hl : ds.length ≤ A34.nt) (hw : W Try.prog A34.code (Fin A34.results r) ⟨argEnv 0 ds, fun _ => none⟩) : PCon Try.prog 34 ds r := pcon_of_W mixed Try.func34 A34k A34c hl hw
/- estovers/estoversref19.in -/
abbrev A35r1 : List AIns := [⟨(some 2), (.mv (.cst (.bool false))), none⟩]
abbrev A35r2 : List AIns := [⟨(some 3), (.mv (.tmp 0)), none⟩, ⟨(some 4), (.bin .geq (.tmp 3) (.cst (.int .i64 0))), none⟩, ⟨(some 5), (.mv (.tmp 4)), none⟩, ⟨(some 6), (.mv (.tmp 0)), (some (5, true))⟩, ⟨(some 7), (.bin .leq (.tmp 6) (.cst (.int .i64 1048576))), (some (5, true))⟩, ⟨(some 8), (.pick (.tmp 5) (.tmp 7) (.cst (.bool false))), none⟩, ⟨(some 2), (.mv (.tmp 8)), none⟩]
def A35 : AFun := ⟨9, 1, [(.tmp 2)], (.seq (.reg A35r1 [0]) (.seq (.reg A35r2 [2]) .ret))⟩
theorem A35c : compF Try.prog Try.f35 = some A35 := by kernel_rfl
theorem A35k : Callable Try.prog 35 := fun a w => Try.call35 a w
theorem A35p {ds : List D} {r : D} (hl : ds.length ≤ A35.nt) (hw : W Try.prog A35.code (Fin A35.results r) ⟨argEnv 0 ds, fun _ => none⟩) : PCon Try.prog 35 ds r := pcon_of_W mixed Try.func35 A35k A35c hl hw
/- estovers/estoversref19.kids -/
abbrev A36r1 : List AIns := [⟨(some 4), (.mv (.cst (.int .i64 0))), none⟩]
abbrev A36r2 : List AIns := [⟨(some 5), (.mv (.cst (.int .i64 0))), none⟩]
abbrev A36r3 : List AIns := [⟨(some 6), (.mv (.cst (.int .i64 1))), none⟩]
abbrev A36r5 : List AIns := [⟨(some 7), (.mv (.tmp 6)), none⟩, ⟨(some 8), (.mv (.tmp 0)), none⟩, ⟨(some 9), (.len (.tmp 8)), none⟩, ⟨(some 10), (.bin .lss (.tmp 7) (.tmp 9)), none⟩]
abbrev A36r6 : List AIns := [⟨(some 13), (.mv (.tmp 0)), none⟩, ⟨(some 14), (.mv (.tmp 6)), none⟩, ⟨(some 15), (.iaddr 5 (.tmp 13) (.tmp 14)), none⟩, ⟨(some 16), (.faddr 0 (.tmp 15)), none⟩, ⟨(some 17), (.load false 1 (.tmp 16)), none⟩, ⟨(some 18), (.mv (.tmp 1)), none⟩, ⟨(some 19), (.bin .eql (.tmp 17) (.tmp 18)), none⟩]
abbrev A36r7 : List AIns := [⟨(some 20), (.mv (.tmp 5)), none⟩, ⟨(some 21), (.mv (.tmp 0)), none⟩, ⟨(some 22), (.mv (.tmp 6)), none⟩, ⟨(some 23), (.iaddr 5 (.tmp 21) (.tmp 22)), none⟩, ⟨(some 24), (.faddr 1 (.tmp 23)), none⟩, ⟨(some 25), (.load false 1 (.tmp 24)), none⟩, ⟨(some 26), (.bin .add (.tmp 20) (.tmp 25)), none⟩, ⟨(some 5), (.mv (.tmp 26)), none⟩]
abbrev A36c8 : ACode := (.seq (.reg A36r6 [0, 1, 5, 6, 19]) (.cond (.tmp 19) [0, 1, 5, 6] (.reg A36r7 [0, 1, 5, 6]) [0, 1, 5, 6] .skip))
abbrev A36r9 : List AIns := [⟨(some 11), (.mv (.tmp 6)), none⟩, ⟨(some 12), (.bin .add (.tmp 11) (.cst (.int .i64 1))), none⟩, ⟨(some 6), (.mv (.tmp 12)), none⟩]
abbrev A36l4 : ACode := (.seq (.seq (.reg A36r5 [0, 1, 5, 6, 10]) (.cond (.tmp 10) [0, 1, 5, 6] .skip [5] (.exit 0))) (.seq (.block 1 A36c8) (.reg A36r9 [0, 1, 5, 6])))
abbrev A36r10 : List AIns := [⟨(some 27), (.mv (.tmp 5)), none⟩, ⟨(some 4), (.mv (.tmp 27)), none⟩]
def A36 : AFun := ⟨28, 2, [(.tmp 4)], (.seq (.reg A36r1 [0, 1]) (.seq (.reg A36r2 [0, 1, 5]) (.seq (.seq (.reg A36r3 [0, 1, 5, 6]) (.block 0 (.loop A36l4))) (.seq (.reg A36r10 [4]) .ret))))⟩
theorem A36c : compF Try.prog Try.f36 = some A36 := by kernel_rfl
theorem A36k : Callable Try.prog 36 := fun a w => Try.call36 a w
theorem A36p {ds : List D} {r : D} (hl : ds.length ≤ A36.nt) (hw : W Try.prog A36.code (Fin A36.results r) ⟨argEnv 0 ds, fun _ => none⟩) : PCon Try.prog 36 ds r := pcon_of_W mixed Try.func36 A36k A36c hl hw
/- estovers/estoversref19.has -/
abbrev A37r1 : List AIns := [⟨(some 4), (.mv (.cst (.bool false))), none⟩]
abbrev A37r2 : List AIns := [⟨(some 5), (.mv (.tmp 0)), none⟩, ⟨(some 6), (.call (.fnc 24) [(.tmp 5)]), none⟩, ⟨(some 7), (.bin .eql (.tmp 6) (.cst (.int .i64 0))), none⟩, ⟨(some 8), (.mv (.tmp 7)), none⟩, ⟨(some 9), (.mv (.tmp 1)), (some (8, true))⟩, ⟨(some 10), (.bin .geq (.tmp 9) (.cst (.int .i64 0))), (some (8, true))⟩, ⟨(some 11), (.pick (.tmp 8) (.tmp 10) (.cst (.bool false))), none⟩, ⟨(some 12), (.mv (.tmp 11)), none⟩, ⟨(some 13), (.mv (.tmp 1)), (some (12, true))⟩, ⟨(some 14), (.mv (.tmp 0)), (some (12, true))⟩, ⟨(some 15), (.len (.tmp 14)), (some (12, true))⟩, ⟨(some 16), (.bin .lss (.tmp 13) (.tmp 15)), (some (12, true))⟩, ⟨(some 17), (.pick (.tmp 12) (.tmp 16) (.cst (.bool false))), none⟩, ⟨(some 4), (.mv (.tmp 17)), none⟩]
def A37 : AFun := ⟨18, 2, [(.tmp 4)], (.seq (.reg A37r1 [0, 1]) (.seq (.reg A37r2 [4]) .ret))⟩
theorem A37c : compF Try.prog Try.f37 = some A37 := by kernel_rfl
theorem A37k : Callable Try.prog 37 := fun a w => Try.call37 a w
theorem A37p {ds : List D} {r : D} (hl : ds.length ≤ A37.nt) (hw : W Try.prog A37.code (Fin A37.results r) ⟨argEnv 0 ds, fun _ => none⟩) : PCon Try.prog 37 ds r := pcon_of_W mixed Try.func37 A37k A37c hl hw
/- estovers/estoversref19.Path -/
abbrev A38r1 : List AIns := [⟨(some 4), (.mv (.cst .nil)), none⟩]
abbrev A38r2 : List AIns := [⟨(some 6), (.mv (.tmp 0)), none⟩, ⟨(some 7), (.mv (.tmp 1)), none⟩, ⟨(some 8), (.call (.fnc 37) [(.tmp 6), (.tmp 7)]), none⟩, ⟨(some 9), (.un .not (.tmp 8)), none⟩]
abbrev A38r3 : List AIns := [⟨(some 4), (.mv (.cst .nil)), none⟩]
abbrev A38r4 : List AIns := [⟨(some 5), (.mv (.cst .nil)), none⟩]
abbrev A38r6 : List AIns := [⟨(some 10), (.mv (.tmp 1)), none⟩, ⟨(some 11), (.bin .geq (.tmp 10) (.cst (.int .i64 0))), none⟩]
abbrev A38r7 : List AIns := [⟨(some 12), (.mv (.tmp 5)), none⟩, ⟨(some 13), (.mv (.tmp 1)), none⟩, ⟨(some 14), (.buildS 1 [(.int .i64 0)] 1 [(0, (1, (.tmp 13)))]), none⟩, ⟨(some 15), (.append 1 8 (.tmp 12) (.tmp 14)), none⟩, ⟨(some 5), (.mv (.tmp 15)), none⟩]
abbrev A38r8 : List AIns := [⟨(some 16), (.mv (.tmp 0)), none⟩, ⟨(some 17), (.mv (.tmp 1)), none⟩, ⟨(some 18), (.iaddr 5 (.tmp 16) (.tmp 17)), none⟩, ⟨(some 19), (.faddr 0 (.tmp 18)), none⟩, ⟨(some 20), (.load false 1 (.tmp 19)), none⟩, ⟨(some 1), (.mv (.tmp 20)), none⟩]
abbrev A38l5 : ACode := (.seq (.seq (.reg A38r6 [0, 1, 5, 11]) (.cond (.tmp 11) [0, 1, 5] .skip [5] (.exit 0))) (.block 1 (.seq (.reg A38r7 [0, 1, 5]) (.reg A38r8 [0, 1, 5]))))
abbrev A38r9 : List AIns := [⟨(some 21), (.mv (.tmp 5)), none⟩, ⟨(some 4), (.mv (.tmp 21)), none⟩]
def A38 : AFun := ⟨22, 2, [(.tmp 4)], (.seq (.reg A38r1 [0, 1]) (.seq (.seq (.reg A38r2 [0, 1, 9]) (.cond (.tmp 9) [] (.seq (.reg A38r3 [4]) .ret) [0, 1] .skip)) (.seq (.reg A38r4 [0, 1, 5]) (.seq (.block 0 (.loop A38l5)) (.seq (.reg A38r9 [4]) .ret)))))⟩
theorem A38c : compF Try.prog Try.f38 = some A38 := by kernel_rfl
theorem A38k : Callable Try.prog 38 := fun a w => Try.call38 a w
theorem A38p {ds : List D} {r : D} (hl : ds.length ≤ A38.nt) (hw : W Try.prog A38.code (Fin A38.results r) ⟨argEnv 0 ds, fun _ => none⟩) : PCon Try.prog 38 ds r := pcon_of_W mixed Try.func38 A38k A38c hl hw
/- estovers/accounts.tree -/
abbrev A39r1 : List AIns := [⟨(some 2), (.mv (.cst (.bool false))), none⟩]
abbrev A39r2 : List AIns := [⟨(some 5), (.mv (.tmp 0)), none⟩, ⟨(some 6), (.len (.tmp 5)), none⟩, ⟨(some 7), (.mv (.cst (.int .i64 0))), none⟩]
abbrev A39r4 : List AIns := [⟨(some 8), (.bin .lss (.tmp 7) (.tmp 6)), none⟩]
abbrev A39r5 : List AIns := [⟨(some 9), (.mv (.tmp 7)), none⟩, ⟨(some 10), (.iaddr 5 (.tmp 5) (.tmp 7)), none⟩, ⟨(some 11), (.load true 5 (.tmp 10)), none⟩, ⟨(some 4), (.alloc [(.int .i64 0), (.int .i64 0), (.int .i64 0), (.int .i64 0), (.int .i64 0)]), none⟩, ⟨(some 3), (.mv (.tmp 9)), none⟩, ⟨none, (.store 5 (.tmp 4) (.tmp 11)), none⟩]
abbrev A39r6 : List AIns := [⟨(some 12), (.mv (.tmp 3)), none⟩, ⟨(some 13), (.bin .eql (.tmp 12) (.cst (.int .i64 0))), none⟩, ⟨(some 14), (.mv (.tmp 13)), none⟩, ⟨(some 15), (.faddr 0 (.tmp 4)), (some (14, true))⟩, ⟨(some 16), (.load false 1 (.tmp 15)), (some (14, true))⟩, ⟨(some 17), (.bin .neq (.tmp 16) (.cst (.int .i64 (-1)))), (some (14, true))⟩, ⟨(some 18), (.pick (.tmp 14) (.tmp 17) (.cst (.bool false))), none⟩, ⟨(some 19), (.mv (.tmp 18)), none⟩, ⟨(some 20), (.mv (.tmp 3)), (some (19, false))⟩, ⟨(some 21), (.bin .gtr (.tmp 20) (.cst (.int .i64 0))), (some (19, false))⟩, ⟨(some 22), (.mv (.tmp 21)), (some (19, false))⟩, ⟨(some 23), (.faddr 0 (.tmp 4)), (some (22, true))⟩, ⟨(some 24), (.load false 1 (.tmp 23)), (some (22, true))⟩, ⟨(some 25), (.bin .lss (.tmp 24) (.cst (.int .i64 0))), (some (22, true))⟩, ⟨(some 26), (.mv (.tmp 25)), (some (22, true))⟩, ⟨(some 27), (.faddr 0 (.tmp 4)), (some (26, false))⟩, ⟨(some 28), (.load false 1 (.tmp 27)), (some (26, false))⟩, ⟨(some 29), (.mv (.tmp 3)), (some (26, false))⟩, ⟨(some 30), (.bin .geq (.tmp 28) (.tmp 29)), (some (26, false))⟩, ⟨(some 31), (.pick (.tmp 26) (.cst (.bool true)) (.tmp 30)), (some (22, true))⟩, ⟨(some 32), (.pick (.tmp 22) (.tmp 31) (.cst (.bool false))), (some (19, false))⟩, ⟨(some 33), (.pick (.tmp 19) (.cst (.bool true)) (.tmp 32)), none⟩]
abbrev A39r7 : List AIns := [⟨(some 2), (.mv (.cst (.bool false))), none⟩]
abbrev A39c8 : ACode := (.seq (.reg A39r5 [3, 4, 5, 6, 7]) (.seq (.reg A39r6 [5, 6, 7, 33]) (.cond (.tmp 33) [] (.seq (.reg A39r7 [2]) .ret) [5, 6, 7] .skip)))
abbrev A39r9 : List AIns := [⟨(some 34), (.bin .add (.tmp 7) (.cst (.int .i64 1))), none⟩, ⟨(some 7), (.mv (.tmp 34)), none⟩]
abbrev A39l3 : ACode := (.seq (.reg A39r4 [5, 6, 7, 8]) (.seq (.cond (.tmp 8) [5, 6, 7] .skip [] (.exit 0)) (.seq (.block 1 A39c8) (.reg A39r9 [5, 6, 7]))))
abbrev A39r10 : List AIns := [⟨(some 2), (.mv (.cst (.bool true))), none⟩]
def A39 : AFun := ⟨35, 1, [(.tmp 2)], (.seq (.reg A39r1 [0]) (.seq (.seq (.reg A39r2 [5, 6, 7]) (.block 0 (.loop A39l3))) (.seq (.reg A39r10 [2]) .ret)))⟩
theorem A39c : compF Try.prog Try.f39 = some A39 := by kernel_rfl
theorem A39k : Callable Try.prog 39 := fun a w => Try.call39 a w
theorem A39p {ds : List D} {r : D} (hl : ds.length ≤ A39.nt) (hw : W Try.prog A39.code (Fin A39.results r) ⟨argEnv 0 ds, fun _ => none⟩) : PCon Try.prog 39 ds r := pcon_of_W mixed Try.func39 A39k A39c hl hw
/- estovers/accounts.amounts -/
abbrev A40r1 : List AIns := [⟨(some 2), (.mv (.cst (.bool false))), none⟩]
abbrev A40r2 : List AIns := [⟨(some 5), (.mv (.tmp 0)), none⟩, ⟨(some 6), (.len (.tmp 5)), none⟩, ⟨(some 7), (.mv (.cst (.int .i64 0))), none⟩]
abbrev A40r4 : List AIns := [⟨(some 8), (.bin .lss (.tmp 7) (.tmp 6)), none⟩]
abbrev A40r5 : List AIns := [⟨(some 9), (.iaddr 5 (.tmp 5) (.tmp 7)), none⟩, ⟨(some 10), (.load true 5 (.tmp 9)), none⟩, ⟨(some 4), (.alloc [(.int .i64 0), (.int .i64 0), (.int .i64 0), (.int .i64 0), (.int .i64 0)]), none⟩, ⟨none, (.store 5 (.tmp 4) (.tmp 10)), none⟩]
abbrev A40r6 : List AIns := [⟨(some 11), (.faddr 1 (.tmp 4)), none⟩, ⟨(some 12), (.load false 1 (.tmp 11)), none⟩, ⟨(some 13), (.call (.fnc 46) [(.tmp 12)]), none⟩, ⟨(some 14), (.un .not (.tmp 13)), none⟩, ⟨(some 15), (.mv (.tmp 14)), none⟩, ⟨(some 16), (.faddr 2 (.tmp 4)), (some (15, false))⟩, ⟨(some 17), (.load false 1 (.tmp 16)), (some (15, false))⟩, ⟨(some 18), (.call (.fnc 46) [(.tmp 17)]), (some (15, false))⟩, ⟨(some 19), (.un .not (.tmp 18)), (some (15, false))⟩, ⟨(some 20), (.pick (.tmp 15) (.cst (.bool true)) (.tmp 19)), none⟩, ⟨(some 21), (.mv (.tmp 20)), none⟩, ⟨(some 22), (.faddr 3 (.tmp 4)), (some (21, false))⟩, ⟨(some 23), (.load false 1 (.tmp 22)), (some (21, false))⟩, ⟨(some 24), (.call (.fnc 46) [(.tmp 23)]), (some (21, false))⟩, ⟨(some 25), (.un .not (.tmp 24)), (some (21, false))⟩, ⟨(some 26), (.pick (.tmp 21) (.cst (.bool true)) (.tmp 25)), none⟩, ⟨(some 27), (.mv (.tmp 26)), none⟩, ⟨(some 28), (.faddr 4 (.tmp 4)), (some (27, false))⟩, ⟨(some 29), (.load false 1 (.tmp 28)), (some (27, false))⟩, ⟨(some 30), (.call (.fnc 46) [(.tmp 29)]), (some (27, false))⟩, ⟨(some 31), (.un .not (.tmp 30)), (some (27, false))⟩, ⟨(some 32), (.pick (.tmp 27) (.cst (.bool true)) (.tmp 31)), none⟩]
abbrev A40r7 : List AIns := [⟨(some 2), (.mv (.cst (.bool false))), none⟩]
abbrev A40c8 : ACode := (.seq (.reg A40r5 [0, 4, 5, 6, 7]) (.seq (.reg A40r6 [0, 5, 6, 7, 32]) (.cond (.tmp 32) [] (.seq (.reg A40r7 [2]) .ret) [0, 5, 6, 7] .skip)))
abbrev A40r9 : List AIns := [⟨(some 33), (.bin .add (.tmp 7) (.cst (.int .i64 1))), none⟩, ⟨(some 7), (.mv (.tmp 33)), none⟩]
abbrev A40l3 : ACode := (.seq (.reg A40r4 [0, 5, 6, 7, 8]) (.seq (.cond (.tmp 8) [0, 5, 6, 7] .skip [0] (.exit 0)) (.seq (.block 1 A40c8) (.reg A40r9 [0, 5, 6, 7]))))
abbrev A40r10 : List AIns := [⟨(some 34), (.mv (.tmp 0)), none⟩, ⟨(some 35), (.iaddr 5 (.tmp 34) (.cst (.int .i64 0))), none⟩, ⟨(some 36), (.faddr 2 (.tmp 35)), none⟩, ⟨(some 37), (.load false 1 (.tmp 36)), none⟩, ⟨(some 38), (.bin .eql (.tmp 37) (.cst (.int .i64 0))), none⟩, ⟨(some 39), (.mv (.tmp 38)), none⟩, ⟨(some 40), (.mv (.tmp 0)), (some (39, true))⟩, ⟨(some 41), (.iaddr 5 (.tmp 40) (.cst (.int .i64 0))), (some (39, true))⟩, ⟨(some 42), (.faddr 3 (.tmp 41)), (some (39, true))⟩, ⟨(some 43), (.load false 1 (.tmp 42)), (some (39, true))⟩, ⟨(some 44), (.bin .eql (.tmp 43) (.cst (.int .i64 0))), (some (39, true))⟩, ⟨(some 45), (.pick (.tmp 39) (.tmp 44) (.cst (.bool false))), none⟩, ⟨(some 2), (.mv (.tmp 45)), none⟩]
def A40 : AFun := ⟨46, 1, [(.tmp 2)], (.seq (.reg A40r1 [0]) (.seq (.seq (.reg A40r2 [0, 5, 6, 7]) (.block 0 (.loop A40l3))) (.seq (.reg A40r10 [2]) .ret)))⟩
theorem A40c : compF Try.prog Try.f40 = some A40 := by kernel_rfl
theorem A40k : Callable Try.prog 40 := fun a w => Try.call40 a w
theorem A40p {ds : List D} {r : D} (hl : ds.length ≤ A40.nt) (hw : W Try.prog A40.code (Fin A40.results r) ⟨argEnv 0 ds, fun _ => none⟩) : PCon Try.prog 40 ds r := pcon_of_W mixed Try.func40 A40k A40c hl hw
/- slices.ContainsFunc[[]estovers/api.Account,estovers/api.Account] -/
abbrev A41r1 : List AIns := [⟨(some 4), (.mv (.cst (.bool false))), none⟩]
abbrev A41r2 : List AIns := [⟨(some 5), (.mv (.tmp 0)), none⟩, ⟨(some 6), (.mv (.tmp 1)), none⟩, ⟨(some 7), (.call (.fnc 47) [(.tmp 5), (.tmp 6)]), none⟩, ⟨(some 8), (.bin .geq (.tmp 7) (.cst (.int .i64 0))), none⟩, ⟨(some 4), (.mv (.tmp 8)), none⟩]
def A41 : AFun := ⟨9, 2, [(.tmp 4)], (.seq (.reg A41r1 [0, 1]) (.seq (.reg A41r2 [4]) .ret))⟩
theorem A41c : compF Try.prog Try.f41 = some A41 := by kernel_rfl
theorem A41k : Callable Try.prog 41 := fun a w => Try.call41 a w
theorem A41p {ds : List D} {r : D} (hl : ds.length ≤ A41.nt) (hw : W Try.prog A41.code (Fin A41.results r) ⟨argEnv 0 ds, fun _ => none⟩) : PCon Try.prog 41 ds r := pcon_of_W mixed Try.func41 A41k A41c hl hw
/- estovers/accounts.Check$1 -/
abbrev A42r1 : List AIns := [⟨(some 1), (.box (.tmp 0)), none⟩, ⟨(some 2), (.mv (.cst (.bool false))), none⟩]
abbrev A42r2 : List AIns := [⟨(some 3), (.faddr 1 (.tmp 1)), none⟩, ⟨(some 4), (.load false 1 (.tmp 3)), none⟩, ⟨(some 5), (.faddr 4 (.tmp 1)), none⟩, ⟨(some 6), (.load false 1 (.tmp 5)), none⟩, ⟨(some 7), (.bin .gtr (.tmp 4) (.tmp 6)), none⟩, ⟨(some 2), (.mv (.tmp 7)), none⟩]
def A42 : AFun := ⟨8, 1, [(.tmp 2)], (.seq (.reg A42r1 [1]) (.seq (.reg A42r2 [2]) .ret))⟩
theorem A42c : compF Try.prog Try.f42 = some A42 := by kernel_rfl
theorem A42k : Callable Try.prog 42 := fun a w => Try.call42 a w
theorem A42p {ds : List D} {r : D} (hl : ds.length ≤ A42.nt) (hw : W Try.prog A42.code (Fin A42.results r) ⟨argEnv 0 ds, fun _ => none⟩) : PCon Try.prog 42 ds r := pcon_of_W mixed Try.func42 A42k A42c hl hw
/- slices.Min[[]int,int] -/
abbrev A43r1 : List AIns := [⟨(some 2), (.mv (.cst (.int .i64 0))), none⟩]
abbrev A43r2 : List AIns := [⟨(some 5), (.mv (.tmp 0)), none⟩, ⟨(some 6), (.len (.tmp 5)), none⟩, ⟨(some 7), (.bin .lss (.tmp 6) (.cst (.int .i64 1))), none⟩]
abbrev A43r3 : List AIns := [⟨(some 8), .bad, none⟩, ⟨none, .bad, none⟩]
abbrev A43r4 : List AIns := [⟨(some 9), (.mv (.tmp 0)), none⟩, ⟨(some 10), (.iaddr 1 (.tmp 9) (.cst (.int .i64 0))), none⟩, ⟨(some 11), (.load false 1 (.tmp 10)), none⟩, ⟨(some 3), (.mv (.tmp 11)), none⟩]
abbrev A43r5 : List AIns := [⟨(some 4), (.mv (.cst (.int .i64 1))), none⟩]
abbrev A43r7 : List AIns := [⟨(some 12), (.mv (.tmp 4)), none⟩, ⟨(some 13), (.mv (.tmp 0)), none⟩, ⟨(some 14), (.len (.tmp 13)), none⟩, ⟨(some 15), (.bin .lss (.tmp 12) (.tmp 14)), none⟩]
abbrev A43r8 : List AIns := [⟨(some 18), (.mv (.tmp 3)), none⟩, ⟨(some 19), (.mv (.tmp 0)), none⟩, ⟨(some 20), (.mv (.tmp 4)), none⟩, ⟨(some 21), (.iaddr 1 (.tmp 19) (.tmp 20)), none⟩, ⟨(some 22), (.load false 1 (.tmp 21)), none⟩, ⟨(some 23), (.mima false [(.tmp 18), (.tmp 22)]), none⟩, ⟨(some 3), (.mv (.tmp 23)), none⟩]
abbrev A43r9 : List AIns := [⟨(some 16), (.mv (.tmp 4)), none⟩, ⟨(some 17), (.bin .add (.tmp 16) (.cst (.int .i64 1))), none⟩, ⟨(some 4), (.mv (.tmp 17)), none⟩]
abbrev A43l6 : ACode := (.seq (.seq (.reg A43r7 [0, 3, 4, 15]) (.cond (.tmp 15) [0, 3, 4] .skip [3] (.exit 0))) (.seq (.block 1 (.reg A43r8 [0, 3, 4])) (.reg A43r9 [0, 3, 4])))
abbrev A43r10 : List AIns := [⟨(some 24), (.mv (.tmp 3)), none⟩, ⟨(some 2), (.mv (.tmp 24)), none⟩]
def A43 : AFun := ⟨25, 1, [(.tmp 2)], (.seq (.reg A43r1 [0]) (.seq (.seq (.reg A43r2 [0, 7]) (.cond (.tmp 7) [0] (.reg A43r3 [0]) [0] .skip)) (.seq (.reg A43r4 [0, 3]) (.seq (.seq (.reg A43r5 [0, 3, 4]) (.block 0 (.loop A43l6))) (.seq (.reg A43r10 [2]) .ret)))))⟩
theorem A43c : compF Try.prog Try.f43 = some A43 := by kernel_rfl
theorem A43k : Callable Try.prog 43 := fun a w => Try.call43 a w
theorem A43p {ds : List D} {r : D} (hl : ds.length ≤ A43.nt) (hw : W Try.prog A43.code (Fin A43.results r) ⟨argEnv 0 ds, fun _ => none⟩) : PCon Try.prog 43 ds r := pcon_of_W mixed Try.func43 A43k A43c hl hw
/- estovers/accounts.own -/
abbrev A44r1 : List AIns := [⟨(some 2), (.mv (.cst .nil)), none⟩]
abbrev A44r2 : List AIns := [⟨(some 6), (.mv (.tmp 0)), none⟩, ⟨(some 7), (.len (.tmp 6)), none⟩, ⟨(some 8), (.mkslice 1 8 [(.int .i64 0)] (.tmp 7) (.tmp 7)), none⟩, ⟨(some 3), (.mv (.tmp 8)), none⟩]
abbrev A44r3 : List AIns := [⟨(some 9), (.mv (.tmp 0)), none⟩, ⟨(some 10), (.len (.tmp 9)), none⟩, ⟨(some 11), (.mv (.cst (.int .i64 0))), none⟩]
abbrev A44r5 : List AIns := [⟨(some 12), (.bin .lss (.tmp 11) (.tmp 10)), none⟩]
abbrev A44r6 : List AIns := [⟨(some 13), (.mv (.tmp 11)), none⟩, ⟨(some 14), (.iaddr 5 (.tmp 9) (.tmp 11)), none⟩, ⟨(some 15), (.load true 5 (.tmp 14)), none⟩, ⟨(some 5), (.alloc [(.int .i64 0), (.int .i64 0), (.int .i64 0), (.int .i64 0), (.int .i64 0)]), none⟩, ⟨(some 4), (.mv (.tmp 13)), none⟩, ⟨none, (.store 5 (.tmp 5) (.tmp 15)), none⟩]
abbrev A44d7 : List AIns := [⟨(some 16), (.mv (.tmp 3)), none⟩, ⟨(some 17), (.mv (.tmp 4)), none⟩, ⟨(some 18), (.iaddr 1 (.tmp 16) (.tmp 17)), none⟩, ⟨(some 19), (.load false 1 (.tmp 18)), none⟩, ⟨(some 20), (.faddr 1 (.tmp 5)), none⟩, ⟨(some 21), (.load false 1 (.tmp 20)), none⟩, ⟨(some 22), (.bin .add (.tmp 19) (.tmp 21)), none⟩, ⟨(some 23), (.iaddr 1 (.tmp 16) (.tmp 17)), none⟩, ⟨none, (.store 1 (.tmp 23) (.tmp 22)), none⟩]
abbrev A44d7p : List AIns := [⟨(some 16), (.mv (.tmp 3)), none⟩, ⟨(some 17), (.mv (.tmp 4)), none⟩, ⟨(some 18), (.iaddr 1 (.tmp 16) (.tmp 17)), none⟩, ⟨(some 19), (.load false 1 (.tmp 18)), none⟩, ⟨(some 20), (.faddr 1 (.tmp 5)), none⟩, ⟨(some 21), (.load false 1 (.tmp 20)), none⟩, ⟨(some 22), (.bin .add (.tmp 19) (.tmp 21)), none⟩, ⟨(some 23), (.iaddr 1 (.tmp 16) (.tmp 17)), none⟩]
abbrev A44r8 : List AIns := [⟨(some 24), (.mv (.tmp 4)), none⟩, ⟨(some 25), (.bin .gtr (.tmp 24) (.cst (.int .i64 0))), none⟩]
abbrev A44d9 : List AIns := [⟨(some 26), (.mv (.tmp 3)), none⟩, ⟨(some 27), (.faddr 0 (.tmp 5)), none⟩, ⟨(some 28), (.load false 1 (.tmp 27)), none⟩, ⟨(some 29), (.iaddr 1 (.tmp 26) (.tmp 28)), none⟩, ⟨(some 30), (.load false 1 (.tmp 29)), none⟩, ⟨(some 31), (.faddr 1 (.tmp 5)), none⟩, ⟨(some 32), (.load false 1 (.tmp 31)), none⟩, ⟨(some 33), (.bin .sub (.tmp 30) (.tmp 32)), none⟩, ⟨(some 34), (.iaddr 1 (.tmp 26) (.tmp 28)), none⟩, ⟨none, (.store 1 (.tmp 34) (.tmp 33)), none⟩]
abbrev A44d9p : List AIns := [⟨(some 26), (.mv (.tmp 3)), none⟩, ⟨(some 27), (.faddr 0 (.tmp 5)), none⟩, ⟨(some 28), (.load false 1 (.tmp 27)), none⟩, ⟨(some 29), (.iaddr 1 (.tmp 26) (.tmp 28)), none⟩, ⟨(some 30), (.load false 1 (.tmp 29)), none⟩, ⟨(some 31), (.faddr 1 (.tmp 5)), none⟩, ⟨(some 32), (.load false 1 (.tmp 31)), none⟩, ⟨(some 33), (.bin .sub (.tmp 30) (.tmp 32)), none⟩, ⟨(some 34), (.iaddr 1 (.tmp 26) (.tmp 28)), none⟩]
abbrev A44c10 : ACode := (.dreg A44d9 [[], [], [1], [0, 1, 2], [0, 1, 2, 3], [], [5], [0, 1, 2, 3, 4, 5, 6], [0, 1, 2, 3, 4, 5, 6, 7], [0, 1, 2, 3, 4, 5, 6, 7, 8]] [3, 9, 10, 11])
abbrev A44c11 : ACode := (.seq (.reg A44r6 [3, 4, 5, 9, 10, 11]) (.seq (.dreg A44d7 [[], [], [0, 1], [0, 1, 2], [], [4], [0, 1, 2, 3, 4, 5], [0, 1, 2, 3, 4, 5, 6], [0, 1, 2, 3, 4, 5, 6, 7]] [3, 4, 5, 9, 10, 11]) (.seq (.reg A44r8 [3, 5, 9, 10, 11, 25]) (.cond (.tmp 25) [3, 5, 9, 10, 11] A44c10 [3, 9, 10, 11] .skip))))
abbrev A44r12 : List AIns := [⟨(some 35), (.bin .add (.tmp 11) (.cst (.int .i64 1))), none⟩, ⟨(some 11), (.mv (.tmp 35)), none⟩]
abbrev A44l4 : ACode := (.seq (.reg A44r5 [3, 9, 10, 11, 12]) (.seq (.cond (.tmp 12) [3, 9, 10, 11] .skip [3] (.exit 0)) (.seq (.block 1 A44c11) (.reg A44r12 [3, 9, 10, 11]))))
abbrev A44r13 : List AIns := [⟨(some 36), (.mv (.tmp 3)), none⟩, ⟨(some 2), (.mv (.tmp 36)), none⟩]
def A44 : AFun := ⟨37, 1, [(.tmp 2)], (.seq (.reg A44r1 [0]) (.seq (.reg A44r2 [0, 3]) (.seq (.seq (.reg A44r3 [3, 9, 10, 11]) (.block 0 (.loop A44l4))) (.seq (.reg A44r13 [2]) .ret))))⟩
theorem A44c : compF Try.prog Try.f44 = some A44 := by kernel_rfl
theorem A44k : Callable Try.prog 44 := fun a w => Try.call44 a w
theorem A44p {ds : List D} {r : D} (hl : ds.length ≤ A44.nt) (hw : W Try.prog A44.code (Fin A44.results r) ⟨argEnv 0 ds, fun _ => none⟩) : PCon Try.prog 44 ds r := pcon_of_W mixed Try.func44 A44k A44c hl hw
/- estovers/accounts.is -/
abbrev A45r1 : List AIns := [⟨(some 4), (.mv (.cst (.bool false))), none⟩]
abbrev A45r2 : List AIns := [⟨(some 5), (.mv (.tmp 0)), none⟩, ⟨(some 6), (.call (.fnc 28) [(.tmp 5)]), none⟩, ⟨(some 7), (.bin .eql (.tmp 6) (.cst (.int .i64 0))), none⟩, ⟨(some 8), (.mv (.tmp 7)), none⟩, ⟨(some 9), (.mv (.tmp 1)), (some (8, true))⟩, ⟨(some 10), (.bin .geq (.tmp 9) (.cst (.int .i64 0))), (some (8, true))⟩, ⟨(some 11), (.pick (.tmp 8) (.tmp 10) (.cst (.bool false))), none⟩, ⟨(some 12), (.mv (.tmp 11)), none⟩, ⟨(some 13), (.mv (.tmp 1)), (some (12, true))⟩, ⟨(some 14), (.mv (.tmp 0)), (some (12, true))⟩, ⟨(some 15), (.len (.tmp 14)), (some (12, true))⟩, ⟨(some 16), (.bin .lss (.tmp 13) (.tmp 15)), (some (12, true))⟩, ⟨(some 17), (.pick (.tmp 12) (.tmp 16) (.cst (.bool false))), none⟩, ⟨(some 4), (.mv (.tmp 17)), none⟩]
def A45 : AFun := ⟨18, 2, [(.tmp 4)], (.seq (.reg A45r1 [0, 1]) (.seq (.reg A45r2 [4]) .ret))⟩
theorem A45c : compF Try.prog Try.f45 = some A45 := by kernel_rfl
theorem A45k : Callable Try.prog 45 := fun a w => Try.call45 a w
theorem A45p {ds : List D} {r : D} (hl : ds.length ≤ A45.nt) (hw : W Try.prog A45.code (Fin A45.results r) ⟨argEnv 0 ds, fun _ => none⟩) : PCon Try.prog 45 ds r := pcon_of_W mixed Try.func45 A45k A45c hl hw
/- estovers/accounts.in -/
abbrev A46r1 : List AIns := [⟨(some 2), (.mv (.cst (.bool false))), none⟩]
abbrev A46r2 : List AIns := [⟨(some 3), (.mv (.tmp 0)), none⟩, ⟨(some 4), (.bin .geq (.tmp 3) (.cst (.int .i64 0))), none⟩, ⟨(some 5), (.mv (.tmp 4)), none⟩, ⟨(some 6), (.mv (.tmp 0)), (some (5, true))⟩, ⟨(some 7), (.bin .leq (.tmp 6) (.cst (.int .i64 1048576))), (some (5, true))⟩, ⟨(some 8), (.pick (.tmp 5) (.tmp 7) (.cst (.bool false))), none⟩, ⟨(some 2), (.mv (.tmp 8)), none⟩]
def A46 : AFun := ⟨9, 1, [(.tmp 2)], (.seq (.reg A46r1 [0]) (.seq (.reg A46r2 [2]) .ret))⟩
theorem A46c : compF Try.prog Try.f46 = some A46 := by kernel_rfl
theorem A46k : Callable Try.prog 46 := fun a w => Try.call46 a w
theorem A46p {ds : List D} {r : D} (hl : ds.length ≤ A46.nt) (hw : W Try.prog A46.code (Fin A46.results r) ⟨argEnv 0 ds, fun _ => none⟩) : PCon Try.prog 46 ds r := pcon_of_W mixed Try.func46 A46k A46c hl hw
/- slices.IndexFunc[[]estovers/api.Account,estovers/api.Account] -/
abbrev A47r1 : List AIns := [⟨(some 4), (.mv (.cst (.int .i64 0))), none⟩]
abbrev A47r2 : List AIns := [⟨(some 6), (.mv (.tmp 0)), none⟩, ⟨(some 7), (.len (.tmp 6)), none⟩, ⟨(some 8), (.mv (.cst (.int .i64 0))), none⟩]
abbrev A47r4 : List AIns := [⟨(some 9), (.bin .lss (.tmp 8) (.tmp 7)), none⟩]
abbrev A47r5 : List AIns := [⟨(some 10), (.mv (.tmp 8)), none⟩, ⟨(some 5), (.mv (.tmp 10)), none⟩]
abbrev A47r6 : List AIns := [⟨(some 11), (.mv (.tmp 1)), none⟩, ⟨(some 12), (.mv (.tmp 0)), none⟩, ⟨(some 13), (.mv (.tmp 5)), none⟩, ⟨(some 14), (.iaddr 5 (.tmp 12) (.tmp 13)), none⟩, ⟨(some 15), (.load true 5 (.tmp 14)), none⟩, ⟨(some 16), (.call (.tmp 11) [(.tmp 15)]), none⟩]
abbrev A47r7 : List AIns := [⟨(some 17), (.mv (.tmp 5)), none⟩, ⟨(some 4), (.mv (.tmp 17)), none⟩]
abbrev A47c8 : ACode := (.seq (.reg A47r5 [0, 1, 5, 7, 8]) (.seq (.reg A47r6 [0, 1, 5, 7, 8, 16]) (.cond (.tmp 16) [5] (.seq (.reg A47r7 [4]) .ret) [0, 1, 7, 8] .skip)))
abbrev A47r9 : List AIns := [⟨(some 18), (.bin .add (.tmp 8) (.cst (.int .i64 1))), none⟩, ⟨(some 8), (.mv (.tmp 18)), none⟩]
abbrev A47l3 : ACode := (.seq (.reg A47r4 [0, 1, 7, 8, 9]) (.seq (.cond (.tmp 9) [0, 1, 7, 8] .skip [] (.exit 0)) (.seq (.block 1 A47c8) (.reg A47r9 [0, 1, 7, 8]))))
abbrev A47r10 : List AIns := [⟨(some 4), (.mv (.cst (.int .i64 (-1)))), none⟩]
def A47 : AFun := ⟨19, 2, [(.tmp 4)], (.seq (.reg A47r1 [0, 1]) (.seq (.seq (.reg A47r2 [0, 1, 7, 8]) (.block 0 (.loop A47l3))) (.seq (.reg A47r10 [4]) .ret)))⟩
theorem A47c : compF Try.prog Try.f47 = some A47 := by kernel_rfl
theorem A47k : Callable Try.prog 47 := fun a w => Try.call47 a w
theorem A47p {ds : List D} {r : D} (hl : ds.length ≤ A47.nt) (hw : W Try.prog A47.code (Fin A47.results r) ⟨argEnv 0 ds, fun _ => none⟩) : PCon Try.prog 47 ds r := pcon_of_W mixed Try.func47 A47k A47c hl hw
end Go.Proofs.Ytmelmpaiplmjmaa
