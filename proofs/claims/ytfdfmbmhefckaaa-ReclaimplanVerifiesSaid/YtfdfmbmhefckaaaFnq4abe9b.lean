/- The compiled functions of this seat, in named pieces, each with the proof that it is what the compiler gives of the model's code. -/
import Derived.Test.YtfdfmbmhefckaaaAmS
import Derived.Test.YtfdfmbmhefckaaaRows
set_option linter.unusedSimpArgs false
set_option linter.unusedVariables false
namespace Go.Proofs.Ytfdfmbmhefckaaa
open Go.AM
set_option maxRecDepth 100000
theorem mixed : Try.prog.follows .mixedOrders = true := by kernel_rfl
/- estovers/estoverslaw39.ReclaimplanChecks -/
/- estovers/estoverslaw39.ReclaimplanReasons -/
/- estovers/estoverslaw39.ReclaimplanNext -/
/- estovers/estoverslaw39.ReclaimplanCounts -/
/- estovers/estoverslaw39.ReclaimplanVerifies -/
abbrev A7r1 : List AIns := [⟨(some 2), (.box (.tmp 0)), none⟩, ⟨(some 4), (.mv (.cst (.bool false))), none⟩]
abbrev A7r2 : List AIns := [⟨(some 5), (.call (.fnc 15) []), none⟩, ⟨(some 6), (.un .not (.tmp 5)), none⟩, ⟨(some 7), (.mv (.tmp 6)), none⟩, ⟨(some 8), (.load true 4 (.tmp 2)), (some (7, false))⟩, ⟨(some 9), (.call (.fnc 19) [(.tmp 8)]), (some (7, false))⟩, ⟨(some 10), (.un .not (.tmp 9)), (some (7, false))⟩, ⟨(some 11), (.pick (.tmp 7) (.cst (.bool true)) (.tmp 10)), none⟩, ⟨(some 12), (.mv (.tmp 11)), none⟩, ⟨(some 13), (.mv (.tmp 1)), (some (12, false))⟩, ⟨(some 14), (.len (.tmp 13)), (some (12, false))⟩, ⟨(some 15), (.bin .gtr (.tmp 14) (.cst (.int .i64 300))), (some (12, false))⟩, ⟨(some 16), (.pick (.tmp 12) (.cst (.bool true)) (.tmp 15)), none⟩]
abbrev A7r3 : List AIns := [⟨(some 17), (.call (.fnc 15) []), none⟩, ⟨(some 4), (.mv (.tmp 17)), none⟩]
abbrev A7d4 : List AIns := [⟨(some 18), (.faddr 0 (.tmp 2)), none⟩, ⟨(some 19), (.load false 1 (.tmp 18)), none⟩, ⟨(some 20), (.faddr 1 (.tmp 2)), none⟩, ⟨(some 21), (.load false 1 (.tmp 20)), none⟩, ⟨(some 22), (.faddr 2 (.tmp 2)), none⟩, ⟨(some 23), (.load false 1 (.tmp 22)), none⟩, ⟨(some 24), (.faddr 3 (.tmp 2)), none⟩, ⟨(some 25), (.load false 1 (.tmp 24)), none⟩, ⟨(some 26), (.mv (.tmp 1)), none⟩, ⟨(some 27), (.call (.fnc 31) [(.tmp 19), (.tmp 21), (.tmp 23), (.tmp 25), (.tmp 26)]), none⟩, ⟨(some 28), (.faddr 0 (.tmp 2)), none⟩, ⟨(some 29), (.load false 1 (.tmp 28)), none⟩, ⟨(some 30), (.faddr 1 (.tmp 2)), none⟩, ⟨(some 31), (.load false 1 (.tmp 30)), none⟩, ⟨(some 32), (.faddr 2 (.tmp 2)), none⟩, ⟨(some 33), (.load false 1 (.tmp 32)), none⟩, ⟨(some 34), (.faddr 3 (.tmp 2)), none⟩, ⟨(some 35), (.load false 1 (.tmp 34)), none⟩, ⟨(some 36), (.mv (.tmp 1)), none⟩, ⟨(some 37), (.call (.fnc 32) [(.tmp 29), (.tmp 31), (.tmp 33), (.tmp 35), (.tmp 36)]), none⟩, ⟨(some 38), (.bin .eql (.tmp 27) (.tmp 37)), none⟩, ⟨(some 4), (.mv (.tmp 38)), none⟩]
def A7 : AFun := ⟨39, 2, [(.tmp 4)], (.seq (.reg A7r1 [1, 2]) (.seq (.seq (.reg A7r2 [1, 2, 16]) (.cond (.tmp 16) [] (.seq (.reg A7r3 [4]) .ret) [1, 2] .skip)) (.seq (.dreg A7d4 [[], [0], [], [2], [], [4], [], [6], [], [0, 1, 2, 3, 4, 5, 6, 7, 8], [], [10], [], [12], [], [14], [], [16], [], [0, 1, 2, 3, 4, 5, 6, 7, 8, 9, 10, 11, 12, 13, 14, 15, 16, 17, 18], [0, 1, 2, 3, 4, 5, 6, 7, 8, 9, 10, 11, 12, 13, 14, 15, 16, 17, 18, 19], [0, 1, 2, 3, 4, 5, 6, 7, 8, 9, 10, 11, 12, 13, 14, 15, 16, 17, 18, 19, 20]] [4]) .ret)))⟩
theorem A7c : compF Try.prog Try.f7 = some A7 := by kernel_rfl
theorem A7k : Callable Try.prog 7 := fun a w => Try.call7 a w
theorem A7p {ds : List D} {r : D} (hl : ds.length ≤ A7.nt) (hw : W Try.prog A7.code (Fin A7.results r) ⟨argEnv 0 ds, fun _ => none⟩) : PCon Try.prog 7 ds r := pcon_of_W mixed Try.func7 A7k A7c hl hw
/- estovers/estoverslaw39.ReclaimplanEither -/
/- estovers/estoverslaw39.ReclaimplanSound -/
/- estovers/estoverslaw39.ReclaimplanFloors -/
/- estovers/estoverslaw39.ReclaimplanOldest -/
/- estovers/estoverstop.TopSharesKept -/
/- estovers/estoverstop.TopShortageOpens -/
/- estovers/estoverstop.TopLocking -/
/- estovers/estoverslaw39.awake -/
abbrev A15r1 : List AIns := [⟨(some 0), (.mv (.cst (.bool false))), none⟩]
abbrev A15r2 : List AIns := [⟨(some 3), (.call (.fnc 40) []), none⟩, ⟨(some 1), (.alloc [.nil, .nil, (.int .i64 0), (.bool false)]), none⟩, ⟨none, (.store 4 (.tmp 1) (.tmp 3)), none⟩]
abbrev A15r3 : List AIns := [⟨(some 4), (.faddr 0 (.tmp 1)), none⟩, ⟨(some 5), (.load false 1 (.tmp 4)), none⟩, ⟨(some 6), (.faddr 1 (.tmp 1)), none⟩, ⟨(some 7), (.load false 1 (.tmp 6)), none⟩, ⟨(some 8), (.call (.fnc 25) [(.tmp 5), (.tmp 7), (.cst (.int .i64 (-1))), (.cst (.bool false))]), none⟩, ⟨(some 9), (.bin .neq (.tmp 8) (.cst (.int .i64 0))), none⟩, ⟨(some 10), (.mv (.tmp 9)), none⟩, ⟨(some 11), (.faddr 0 (.tmp 1)), (some (10, false))⟩, ⟨(some 12), (.load false 1 (.tmp 11)), (some (10, false))⟩, ⟨(some 13), (.faddr 1 (.tmp 1)), (some (10, false))⟩, ⟨(some 14), (.load false 1 (.tmp 13)), (some (10, false))⟩, ⟨(some 15), (.call (.fnc 25) [(.tmp 12), (.tmp 14), (.cst (.int .i64 2)), (.cst (.bool true))]), (some (10, false))⟩, ⟨(some 16), (.bin .neq (.tmp 15) (.cst (.int .i64 1))), (some (10, false))⟩, ⟨(some 17), (.pick (.tmp 10) (.cst (.bool true)) (.tmp 16)), none⟩, ⟨(some 18), (.mv (.tmp 17)), none⟩, ⟨(some 19), (.faddr 0 (.tmp 1)), (some (18, false))⟩, ⟨(some 20), (.load false 1 (.tmp 19)), (some (18, false))⟩, ⟨(some 21), (.faddr 1 (.tmp 1)), (some (18, false))⟩, ⟨(some 22), (.load false 1 (.tmp 21)), (some (18, false))⟩, ⟨(some 23), (.call (.fnc 20) [(.tmp 20), (.tmp 22), (.cst (.int .i64 (-1))), (.cst (.int .i64 1)), (.cst (.bool false))]), (some (18, false))⟩, ⟨(some 24), (.bin .neq (.tmp 23) (.cst (.int .i64 11))), (some (18, false))⟩, ⟨(some 25), (.pick (.tmp 18) (.cst (.bool true)) (.tmp 24)), none⟩]
abbrev A15r4 : List AIns := [⟨(some 0), (.mv (.cst (.bool false))), none⟩]
abbrev A15r5 : List AIns := [⟨(some 26), (.faddr 0 (.tmp 1)), none⟩, ⟨(some 27), (.load false 1 (.tmp 26)), none⟩, ⟨(some 28), (.iaddr 7 (.tmp 27) (.cst (.int .i64 0))), none⟩, ⟨(some 29), (.faddr 3 (.tmp 28)), none⟩, ⟨none, (.store 1 (.tmp 29) (.cst (.int .i64 7))), none⟩]
abbrev A15r6 : List AIns := [⟨(some 30), (.faddr 0 (.tmp 1)), none⟩, ⟨(some 31), (.load false 1 (.tmp 30)), none⟩, ⟨(some 32), (.faddr 1 (.tmp 1)), none⟩, ⟨(some 33), (.load false 1 (.tmp 32)), none⟩, ⟨(some 34), (.call (.fnc 23) [(.tmp 31), (.tmp 33), (.cst (.int .i64 1)), (.cst (.bool true))]), none⟩, ⟨(some 2), (.mv (.tmp 34)), none⟩]
abbrev A15r7 : List AIns := [⟨(some 35), (.faddr 0 (.tmp 1)), none⟩, ⟨(some 36), (.load false 1 (.tmp 35)), none⟩, ⟨(some 37), (.faddr 1 (.tmp 1)), none⟩, ⟨(some 38), (.load false 1 (.tmp 37)), none⟩, ⟨(some 39), (.call (.fnc 25) [(.tmp 36), (.tmp 38), (.cst (.int .i64 1)), (.cst (.bool true))]), none⟩, ⟨(some 40), (.bin .neq (.tmp 39) (.cst (.int .i64 (-1)))), none⟩, ⟨(some 41), (.mv (.tmp 40)), none⟩, ⟨(some 42), (.mv (.tmp 2)), (some (41, false))⟩, ⟨(some 43), (.len (.tmp 42)), (some (41, false))⟩, ⟨(some 44), (.bin .neq (.tmp 43) (.cst (.int .i64 4))), (some (41, false))⟩, ⟨(some 45), (.pick (.tmp 41) (.cst (.bool true)) (.tmp 44)), none⟩, ⟨(some 46), (.mv (.tmp 45)), none⟩, ⟨(some 47), (.mv (.tmp 2)), (some (46, false))⟩, ⟨(some 48), (.iaddr 7 (.tmp 47) (.cst (.int .i64 0))), (some (46, false))⟩, ⟨(some 49), (.faddr 3 (.tmp 48)), (some (46, false))⟩, ⟨(some 50), (.load false 1 (.tmp 49)), (some (46, false))⟩, ⟨(some 51), (.bin .neq (.tmp 50) (.cst (.int .i64 7))), (some (46, false))⟩, ⟨(some 52), (.pick (.tmp 46) (.cst (.bool true)) (.tmp 51)), none⟩, ⟨(some 53), (.mv (.tmp 52)), none⟩, ⟨(some 54), (.mv (.tmp 2)), (some (53, false))⟩, ⟨(some 55), (.iaddr 7 (.tmp 54) (.cst (.int .i64 1))), (some (53, false))⟩, ⟨(some 56), (.faddr 3 (.tmp 55)), (some (53, false))⟩, ⟨(some 57), (.load false 1 (.tmp 56)), (some (53, false))⟩, ⟨(some 58), (.bin .neq (.tmp 57) (.cst (.int .i64 13))), (some (53, false))⟩, ⟨(some 59), (.pick (.tmp 53) (.cst (.bool true)) (.tmp 58)), none⟩, ⟨(some 60), (.mv (.tmp 59)), none⟩, ⟨(some 61), (.mv (.tmp 2)), (some (60, false))⟩, ⟨(some 62), (.iaddr 7 (.tmp 61) (.cst (.int .i64 2))), (some (60, false))⟩, ⟨(some 63), (.faddr 3 (.tmp 62)), (some (60, false))⟩, ⟨(some 64), (.load false 1 (.tmp 63)), (some (60, false))⟩, ⟨(some 65), (.bin .neq (.tmp 64) (.cst (.int .i64 12))), (some (60, false))⟩, ⟨(some 66), (.pick (.tmp 60) (.cst (.bool true)) (.tmp 65)), none⟩]
abbrev A15r8 : List AIns := [⟨(some 0), (.mv (.cst (.bool false))), none⟩]
abbrev A15r9 : List AIns := [⟨(some 67), (.faddr 0 (.tmp 1)), none⟩, ⟨(some 68), (.load false 1 (.tmp 67)), none⟩, ⟨(some 69), (.iaddr 7 (.tmp 68) (.cst (.int .i64 2))), none⟩, ⟨(some 70), (.faddr 6 (.tmp 69)), none⟩, ⟨none, (.store 1 (.tmp 70) (.cst (.bool true))), none⟩]
abbrev A15r10 : List AIns := [⟨(some 71), (.faddr 0 (.tmp 1)), none⟩, ⟨(some 72), (.load false 1 (.tmp 71)), none⟩, ⟨(some 73), (.faddr 1 (.tmp 1)), none⟩, ⟨(some 74), (.load false 1 (.tmp 73)), none⟩, ⟨(some 75), (.call (.fnc 31) [(.tmp 72), (.tmp 74), (.cst (.int .i64 1)), (.cst (.bool true)), (.cst .nil)]), none⟩, ⟨(some 76), (.bin .eql (.tmp 75) (.cst (.int .i64 3))), none⟩, ⟨(some 77), (.mv (.tmp 76)), none⟩, ⟨(some 78), (.faddr 0 (.tmp 1)), (some (77, true))⟩, ⟨(some 79), (.load false 1 (.tmp 78)), (some (77, true))⟩, ⟨(some 80), (.faddr 1 (.tmp 1)), (some (77, true))⟩, ⟨(some 81), (.load false 1 (.tmp 80)), (some (77, true))⟩, ⟨(some 82), (.call (.fnc 27) [(.tmp 79), (.tmp 81), (.cst (.int .i64 1)), (.cst (.bool false))]), (some (77, true))⟩, ⟨(some 83), (.bin .eql (.tmp 82) (.cst (.int .i64 1))), (some (77, true))⟩, ⟨(some 84), (.pick (.tmp 77) (.tmp 83) (.cst (.bool false))), none⟩, ⟨(some 85), (.mv (.tmp 84)), none⟩, ⟨(some 86), (.faddr 0 (.tmp 1)), (some (85, true))⟩, ⟨(some 87), (.load false 1 (.tmp 86)), (some (85, true))⟩, ⟨(some 88), (.faddr 1 (.tmp 1)), (some (85, true))⟩, ⟨(some 89), (.load false 1 (.tmp 88)), (some (85, true))⟩, ⟨(some 90), (.call (.fnc 29) [(.tmp 87), (.tmp 89), (.cst (.int .i64 (-1))), (.cst (.bool false))]), (some (85, true))⟩, ⟨(some 91), (.pick (.tmp 85) (.tmp 90) (.cst (.bool false))), none⟩, ⟨(some 92), (.mv (.tmp 91)), none⟩, ⟨(some 93), (.call (.fnc 17) [(.cst .nil), (.cst .nil)]), (some (92, true))⟩, ⟨(some 94), (.bin .eql (.tmp 93) (.cst (.int .i64 9))), (some (92, true))⟩, ⟨(some 95), (.pick (.tmp 92) (.tmp 94) (.cst (.bool false))), none⟩, ⟨(some 0), (.mv (.tmp 95)), none⟩]
def A15 : AFun := ⟨96, 0, [(.tmp 0)], (.seq (.reg A15r1 []) (.seq (.reg A15r2 [1]) (.seq (.seq (.reg A15r3 [1, 25]) (.cond (.tmp 25) [] (.seq (.reg A15r4 [0]) .ret) [1] .skip)) (.seq (.reg A15r5 [1]) (.seq (.reg A15r6 [1, 2]) (.seq (.seq (.reg A15r7 [1, 66]) (.cond (.tmp 66) [] (.seq (.reg A15r8 [0]) .ret) [1] .skip)) (.seq (.reg A15r9 [1]) (.seq (.reg A15r10 [0]) .ret))))))))⟩
theorem A15c : compF Try.prog Try.f15 = some A15 := by kernel_rfl
theorem A15k : Callable Try.prog 15 := fun a w => Try.call15 a w
theorem A15p {ds : List D} {r : D} (hl : ds.length ≤ A15.nt) (hw : W Try.prog A15.code (Fin A15.results r) ⟨argEnv 0 ds, fun _ => none⟩) : PCon Try.prog 15 ds r := pcon_of_W mixed Try.func15 A15k A15c hl hw
/- estovers/estoversref39.Few -/
abbrev A16r1 : List AIns := [⟨(some 4), (.mv (.cst (.bool false))), none⟩]
abbrev A16r2 : List AIns := [⟨(some 5), (.mv (.tmp 0)), none⟩, ⟨(some 6), (.len (.tmp 5)), none⟩, ⟨(some 7), (.bin .leq (.tmp 6) (.cst (.int .i64 300))), none⟩, ⟨(some 8), (.mv (.tmp 7)), none⟩, ⟨(some 9), (.mv (.tmp 1)), (some (8, true))⟩, ⟨(some 10), (.len (.tmp 9)), (some (8, true))⟩, ⟨(some 11), (.bin .leq (.tmp 10) (.cst (.int .i64 40))), (some (8, true))⟩, ⟨(some 12), (.pick (.tmp 8) (.tmp 11) (.cst (.bool false))), none⟩, ⟨(some 4), (.mv (.tmp 12)), none⟩]
def A16 : AFun := ⟨13, 2, [(.tmp 4)], (.seq (.reg A16r1 [0, 1]) (.seq (.reg A16r2 [4]) .ret))⟩
theorem A16c : compF Try.prog Try.f16 = some A16 := by kernel_rfl
theorem A16k : Callable Try.prog 16 := fun a w => Try.call16 a w
theorem A16p {ds : List D} {r : D} (hl : ds.length ≤ A16.nt) (hw : W Try.prog A16.code (Fin A16.results r) ⟨argEnv 0 ds, fun _ => none⟩) : PCon Try.prog 16 ds r := pcon_of_W mixed Try.func16 A16k A16c hl hw
/- estovers/reclaimplan.Check -/
abbrev A17r1 : List AIns := [⟨(some 4), (.mv (.cst (.int .i64 0))), none⟩]
abbrev A17r2 : List AIns := [⟨(some 9), (.mv (.tmp 1)), none⟩, ⟨(some 10), (.call (.fnc 41) [(.tmp 9)]), none⟩, ⟨(some 5), (.mv (.tmp 10)), none⟩]
abbrev A17r3 : List AIns := [⟨(some 11), (.mv (.tmp 5)), none⟩, ⟨(some 12), (.bin .neq (.tmp 11) (.cst (.int .i64 0))), none⟩]
abbrev A17r4 : List AIns := [⟨(some 13), (.mv (.tmp 5)), none⟩, ⟨(some 4), (.mv (.tmp 13)), none⟩]
abbrev A17r5 : List AIns := [⟨(some 6), (.mv (.cst (.int .i64 (-1)))), none⟩]
abbrev A17r6 : List AIns := [⟨(some 14), (.mv (.tmp 0)), none⟩, ⟨(some 15), (.len (.tmp 14)), none⟩, ⟨(some 16), (.mv (.cst (.int .i64 0))), none⟩]
abbrev A17r8 : List AIns := [⟨(some 17), (.bin .lss (.tmp 16) (.tmp 15)), none⟩]
abbrev A17r9 : List AIns := [⟨(some 18), (.iaddr 7 (.tmp 14) (.tmp 16)), none⟩, ⟨(some 19), (.load true 7 (.tmp 18)), none⟩, ⟨(some 8), (.alloc [(.int .i64 0), (.int .i64 0), (.int .i64 0), (.int .i64 0), (.int .i64 0), (.bool false), (.bool false)]), none⟩, ⟨none, (.store 7 (.tmp 8) (.tmp 19)), none⟩]
abbrev A17r10 : List AIns := [⟨(some 21), (.faddr 0 (.tmp 8)), none⟩, ⟨(some 22), (.load false 1 (.tmp 21)), none⟩, ⟨(some 23), (.bin .lss (.tmp 22) (.cst (.int .i64 0))), none⟩, ⟨(some 24), (.mv (.tmp 23)), none⟩, ⟨(some 25), (.faddr 0 (.tmp 8)), (some (24, false))⟩, ⟨(some 26), (.load false 1 (.tmp 25)), (some (24, false))⟩, ⟨(some 27), (.bin .geq (.tmp 26) (.cst (.int .i64 256))), (some (24, false))⟩, ⟨(some 28), (.pick (.tmp 24) (.cst (.bool true)) (.tmp 27)), none⟩, ⟨(some 29), (.mv (.tmp 28)), none⟩, ⟨(some 30), (.faddr 1 (.tmp 8)), (some (29, false))⟩, ⟨(some 31), (.load false 1 (.tmp 30)), (some (29, false))⟩, ⟨(some 32), (.bin .lss (.tmp 31) (.cst (.int .i64 (-1)))), (some (29, false))⟩, ⟨(some 33), (.pick (.tmp 29) (.cst (.bool true)) (.tmp 32)), none⟩, ⟨(some 34), (.mv (.tmp 33)), none⟩, ⟨(some 35), (.faddr 1 (.tmp 8)), (some (34, false))⟩, ⟨(some 36), (.load false 1 (.tmp 35)), (some (34, false))⟩, ⟨(some 37), (.mv (.tmp 1)), (some (34, false))⟩, ⟨(some 38), (.len (.tmp 37)), (some (34, false))⟩, ⟨(some 39), (.bin .geq (.tmp 36) (.tmp 38)), (some (34, false))⟩, ⟨(some 40), (.pick (.tmp 34) (.cst (.bool true)) (.tmp 39)), none⟩, ⟨(some 20), (.mv (.tmp 40)), none⟩]
abbrev A17r11 : List AIns := [⟨(some 4), (.mv (.cst (.int .i64 2))), none⟩]
abbrev A17r12 : List AIns := [⟨(some 42), (.faddr 0 (.tmp 8)), none⟩, ⟨(some 43), (.load false 1 (.tmp 42)), none⟩, ⟨(some 44), (.mv (.tmp 6)), none⟩, ⟨(some 45), (.bin .leq (.tmp 43) (.tmp 44)), none⟩, ⟨(some 41), (.mv (.tmp 45)), none⟩]
abbrev A17r13 : List AIns := [⟨(some 4), (.mv (.cst (.int .i64 10))), none⟩]
abbrev A17r14 : List AIns := [⟨(some 47), (.faddr 3 (.tmp 8)), none⟩, ⟨(some 48), (.load false 1 (.tmp 47)), none⟩, ⟨(some 49), (.bin .lss (.tmp 48) (.cst (.int .i64 0))), none⟩, ⟨(some 50), (.mv (.tmp 49)), none⟩, ⟨(some 51), (.faddr 3 (.tmp 8)), (some (50, false))⟩, ⟨(some 52), (.load false 1 (.tmp 51)), (some (50, false))⟩, ⟨(some 53), (.bin .gtr (.tmp 52) (.cst (.int .i64 10))), (some (50, false))⟩, ⟨(some 54), (.pick (.tmp 50) (.cst (.bool true)) (.tmp 53)), none⟩, ⟨(some 55), (.mv (.tmp 54)), none⟩, ⟨(some 56), (.faddr 2 (.tmp 8)), (some (55, false))⟩, ⟨(some 57), (.load false 1 (.tmp 56)), (some (55, false))⟩, ⟨(some 58), (.bin .lss (.tmp 57) (.cst (.int .i64 (-1)))), (some (55, false))⟩, ⟨(some 59), (.pick (.tmp 55) (.cst (.bool true)) (.tmp 58)), none⟩, ⟨(some 60), (.mv (.tmp 59)), none⟩, ⟨(some 61), (.faddr 4 (.tmp 8)), (some (60, false))⟩, ⟨(some 62), (.load false 1 (.tmp 61)), (some (60, false))⟩, ⟨(some 63), (.bin .lss (.tmp 62) (.cst (.int .i64 (-1)))), (some (60, false))⟩, ⟨(some 64), (.pick (.tmp 60) (.cst (.bool true)) (.tmp 63)), none⟩, ⟨(some 46), (.mv (.tmp 64)), none⟩]
abbrev A17r15 : List AIns := [⟨(some 4), (.mv (.cst (.int .i64 1))), none⟩]
abbrev A17r16 : List AIns := [⟨(some 66), (.faddr 3 (.tmp 8)), none⟩, ⟨(some 67), (.load false 1 (.tmp 66)), none⟩, ⟨(some 68), (.bin .eql (.tmp 67) (.cst (.int .i64 0))), none⟩, ⟨(some 69), (.mv (.tmp 68)), none⟩, ⟨(some 70), (.faddr 6 (.tmp 8)), (some (69, true))⟩, ⟨(some 71), (.load false 1 (.tmp 70)), (some (69, true))⟩, ⟨(some 72), (.un .not (.tmp 71)), (some (69, true))⟩, ⟨(some 73), (.pick (.tmp 69) (.tmp 72) (.cst (.bool false))), none⟩, ⟨(some 74), (.mv (.tmp 73)), none⟩, ⟨(some 75), (.faddr 2 (.tmp 8)), (some (74, true))⟩, ⟨(some 76), (.load false 1 (.tmp 75)), (some (74, true))⟩, ⟨(some 77), (.bin .eql (.tmp 76) (.cst (.int .i64 (-1)))), (some (74, true))⟩, ⟨(some 78), (.pick (.tmp 74) (.tmp 77) (.cst (.bool false))), none⟩, ⟨(some 65), (.mv (.tmp 78)), none⟩]
abbrev A17r17 : List AIns := [⟨(some 4), (.mv (.cst (.int .i64 3))), none⟩]
abbrev A17c18 : ACode := (.seq (.reg A17r16 [1, 8, 14, 15, 16, 65]) (.cond (.tmp 65) [] (.seq (.reg A17r17 [4]) .ret) [1, 8, 14, 15, 16] .skip))
abbrev A17c19 : ACode := (.seq (.reg A17r14 [1, 8, 14, 15, 16, 46]) (.cond (.tmp 46) [] (.seq (.reg A17r15 [4]) .ret) [1, 8, 14, 15, 16] A17c18))
abbrev A17c20 : ACode := (.seq (.reg A17r12 [1, 8, 14, 15, 16, 41]) (.cond (.tmp 41) [] (.seq (.reg A17r13 [4]) .ret) [1, 8, 14, 15, 16] A17c19))
abbrev A17c21 : ACode := (.seq (.reg A17r10 [1, 6, 8, 14, 15, 16, 20]) (.cond (.tmp 20) [] (.seq (.reg A17r11 [4]) .ret) [1, 6, 8, 14, 15, 16] A17c20))
abbrev A17r22 : List AIns := [⟨(some 79), (.faddr 0 (.tmp 8)), none⟩, ⟨(some 80), (.load false 1 (.tmp 79)), none⟩, ⟨(some 6), (.mv (.tmp 80)), none⟩]
abbrev A17c23 : ACode := (.seq (.reg A17r9 [1, 6, 8, 14, 15, 16]) (.seq (.block 2 A17c21) (.reg A17r22 [1, 6, 14, 15, 16])))
abbrev A17r24 : List AIns := [⟨(some 81), (.bin .add (.tmp 16) (.cst (.int .i64 1))), none⟩, ⟨(some 16), (.mv (.tmp 81)), none⟩]
abbrev A17l7 : ACode := (.seq (.reg A17r8 [1, 6, 14, 15, 16, 17]) (.seq (.cond (.tmp 17) [1, 6, 14, 15, 16] .skip [] (.exit 0)) (.seq (.block 1 A17c23) (.reg A17r24 [1, 6, 14, 15, 16]))))
abbrev A17r25 : List AIns := [⟨(some 4), (.mv (.cst (.int .i64 0))), none⟩]
def A17 : AFun := ⟨82, 2, [(.tmp 4)], (.seq (.reg A17r1 [0, 1]) (.seq (.seq (.reg A17r2 [0, 1, 5]) (.seq (.reg A17r3 [0, 1, 5, 12]) (.cond (.tmp 12) [5] (.seq (.reg A17r4 [4]) .ret) [0, 1] .skip))) (.seq (.reg A17r5 [0, 1, 6]) (.seq (.seq (.reg A17r6 [1, 6, 14, 15, 16]) (.block 0 (.loop A17l7))) (.seq (.reg A17r25 [4]) .ret)))))⟩
theorem A17c : compF Try.prog Try.f17 = some A17 := by kernel_rfl
theorem A17k : Callable Try.prog 17 := fun a w => Try.call17 a w
theorem A17p {ds : List D} {r : D} (hl : ds.length ≤ A17.nt) (hw : W Try.prog A17.code (Fin A17.results r) ⟨argEnv 0 ds, fun _ => none⟩) : PCon Try.prog 17 ds r := pcon_of_W mixed Try.func17 A17k A17c hl hw
/- estovers/estoversref39.Check -/
abbrev A18r1 : List AIns := [⟨(some 4), (.mv (.cst (.int .i64 0))), none⟩]
abbrev A18r2 : List AIns := [⟨(some 8), (.mv (.tmp 1)), none⟩, ⟨(some 9), (.call (.fnc 33) [(.tmp 8)]), none⟩, ⟨(some 5), (.mv (.tmp 9)), none⟩]
abbrev A18r3 : List AIns := [⟨(some 10), (.mv (.tmp 5)), none⟩, ⟨(some 11), (.bin .neq (.tmp 10) (.cst (.int .i64 0))), none⟩]
abbrev A18r4 : List AIns := [⟨(some 12), (.mv (.tmp 5)), none⟩, ⟨(some 4), (.mv (.tmp 12)), none⟩]
abbrev A18r5 : List AIns := [⟨(some 6), (.mv (.cst (.int .i64 0))), none⟩]
abbrev A18r7 : List AIns := [⟨(some 13), (.mv (.tmp 6)), none⟩, ⟨(some 14), (.mv (.tmp 0)), none⟩, ⟨(some 15), (.len (.tmp 14)), none⟩, ⟨(some 16), (.bin .lss (.tmp 13) (.tmp 15)), none⟩]
abbrev A18r8 : List AIns := [⟨(some 19), (.mv (.tmp 0)), none⟩, ⟨(some 20), (.mv (.tmp 6)), none⟩, ⟨(some 21), (.iaddr 7 (.tmp 19) (.tmp 20)), none⟩, ⟨(some 22), (.load true 7 (.tmp 21)), none⟩, ⟨(some 7), (.alloc [(.int .i64 0), (.int .i64 0), (.int .i64 0), (.int .i64 0), (.int .i64 0), (.bool false), (.bool false)]), none⟩, ⟨none, (.store 7 (.tmp 7) (.tmp 22)), none⟩]
abbrev A18r9 : List AIns := [⟨(some 23), (.faddr 0 (.tmp 7)), none⟩, ⟨(some 24), (.load false 1 (.tmp 23)), none⟩, ⟨(some 25), (.bin .lss (.tmp 24) (.cst (.int .i64 0))), none⟩, ⟨(some 26), (.mv (.tmp 25)), none⟩, ⟨(some 27), (.faddr 0 (.tmp 7)), (some (26, false))⟩, ⟨(some 28), (.load false 1 (.tmp 27)), (some (26, false))⟩, ⟨(some 29), (.bin .geq (.tmp 28) (.cst (.int .i64 256))), (some (26, false))⟩, ⟨(some 30), (.pick (.tmp 26) (.cst (.bool true)) (.tmp 29)), none⟩, ⟨(some 31), (.mv (.tmp 30)), none⟩, ⟨(some 32), (.faddr 1 (.tmp 7)), (some (31, false))⟩, ⟨(some 33), (.load false 1 (.tmp 32)), (some (31, false))⟩, ⟨(some 34), (.bin .lss (.tmp 33) (.cst (.int .i64 (-1)))), (some (31, false))⟩, ⟨(some 35), (.pick (.tmp 31) (.cst (.bool true)) (.tmp 34)), none⟩, ⟨(some 36), (.mv (.tmp 35)), none⟩, ⟨(some 37), (.faddr 1 (.tmp 7)), (some (36, false))⟩, ⟨(some 38), (.load false 1 (.tmp 37)), (some (36, false))⟩, ⟨(some 39), (.mv (.tmp 1)), (some (36, false))⟩, ⟨(some 40), (.len (.tmp 39)), (some (36, false))⟩, ⟨(some 41), (.bin .geq (.tmp 38) (.tmp 40)), (some (36, false))⟩, ⟨(some 42), (.pick (.tmp 36) (.cst (.bool true)) (.tmp 41)), none⟩]
abbrev A18r10 : List AIns := [⟨(some 4), (.mv (.cst (.int .i64 2))), none⟩]
abbrev A18d11 : List AIns := [⟨(some 43), (.mv (.tmp 6)), none⟩, ⟨(some 44), (.bin .gtr (.tmp 43) (.cst (.int .i64 0))), none⟩, ⟨(some 45), (.mv (.tmp 44)), none⟩, ⟨(some 46), (.faddr 0 (.tmp 7)), (some (45, true))⟩, ⟨(some 47), (.load false 1 (.tmp 46)), (some (45, true))⟩, ⟨(some 48), (.mv (.tmp 0)), (some (45, true))⟩, ⟨(some 49), (.mv (.tmp 6)), (some (45, true))⟩, ⟨(some 50), (.bin .sub (.tmp 49) (.cst (.int .i64 1))), (some (45, true))⟩, ⟨(some 51), (.iaddr 7 (.tmp 48) (.tmp 50)), (some (45, true))⟩, ⟨(some 52), (.faddr 0 (.tmp 51)), (some (45, true))⟩, ⟨(some 53), (.load false 1 (.tmp 52)), (some (45, true))⟩, ⟨(some 54), (.bin .leq (.tmp 47) (.tmp 53)), (some (45, true))⟩, ⟨(some 55), (.pick (.tmp 45) (.tmp 54) (.cst (.bool false))), none⟩]
abbrev A18r12 : List AIns := [⟨(some 4), (.mv (.cst (.int .i64 10))), none⟩]
abbrev A18r13 : List AIns := [⟨(some 56), (.faddr 3 (.tmp 7)), none⟩, ⟨(some 57), (.load false 1 (.tmp 56)), none⟩, ⟨(some 58), (.bin .lss (.tmp 57) (.cst (.int .i64 0))), none⟩, ⟨(some 59), (.mv (.tmp 58)), none⟩, ⟨(some 60), (.faddr 3 (.tmp 7)), (some (59, false))⟩, ⟨(some 61), (.load false 1 (.tmp 60)), (some (59, false))⟩, ⟨(some 62), (.bin .gtr (.tmp 61) (.cst (.int .i64 10))), (some (59, false))⟩, ⟨(some 63), (.pick (.tmp 59) (.cst (.bool true)) (.tmp 62)), none⟩, ⟨(some 64), (.mv (.tmp 63)), none⟩, ⟨(some 65), (.faddr 2 (.tmp 7)), (some (64, false))⟩, ⟨(some 66), (.load false 1 (.tmp 65)), (some (64, false))⟩, ⟨(some 67), (.bin .lss (.tmp 66) (.cst (.int .i64 (-1)))), (some (64, false))⟩, ⟨(some 68), (.pick (.tmp 64) (.cst (.bool true)) (.tmp 67)), none⟩, ⟨(some 69), (.mv (.tmp 68)), none⟩, ⟨(some 70), (.faddr 4 (.tmp 7)), (some (69, false))⟩, ⟨(some 71), (.load false 1 (.tmp 70)), (some (69, false))⟩, ⟨(some 72), (.bin .lss (.tmp 71) (.cst (.int .i64 (-1)))), (some (69, false))⟩, ⟨(some 73), (.pick (.tmp 69) (.cst (.bool true)) (.tmp 72)), none⟩]
abbrev A18r14 : List AIns := [⟨(some 4), (.mv (.cst (.int .i64 1))), none⟩]
abbrev A18r15 : List AIns := [⟨(some 74), (.faddr 3 (.tmp 7)), none⟩, ⟨(some 75), (.load false 1 (.tmp 74)), none⟩, ⟨(some 76), (.bin .eql (.tmp 75) (.cst (.int .i64 0))), none⟩, ⟨(some 77), (.mv (.tmp 76)), none⟩, ⟨(some 78), (.faddr 6 (.tmp 7)), (some (77, true))⟩, ⟨(some 79), (.load false 1 (.tmp 78)), (some (77, true))⟩, ⟨(some 80), (.un .not (.tmp 79)), (some (77, true))⟩, ⟨(some 81), (.pick (.tmp 77) (.tmp 80) (.cst (.bool false))), none⟩, ⟨(some 82), (.mv (.tmp 81)), none⟩, ⟨(some 83), (.faddr 2 (.tmp 7)), (some (82, true))⟩, ⟨(some 84), (.load false 1 (.tmp 83)), (some (82, true))⟩, ⟨(some 85), (.bin .eql (.tmp 84) (.cst (.int .i64 (-1)))), (some (82, true))⟩, ⟨(some 86), (.pick (.tmp 82) (.tmp 85) (.cst (.bool false))), none⟩]
abbrev A18r16 : List AIns := [⟨(some 4), (.mv (.cst (.int .i64 3))), none⟩]
abbrev A18c17 : ACode := (.seq (.reg A18r8 [0, 1, 6, 7]) (.seq (.seq (.reg A18r9 [0, 1, 6, 7, 42]) (.cond (.tmp 42) [] (.seq (.reg A18r10 [4]) .ret) [0, 1, 6, 7] .skip)) (.seq (.seq (.dreg A18d11 [[], [0], [0, 1], [0, 1, 2], [0, 1, 2, 3], [0, 1, 2], [0, 1, 2], [0, 1, 2, 6], [0, 1, 2, 5, 6, 7], [0, 1, 2, 5, 6, 7, 8], [0, 1, 2, 5, 6, 7, 8, 9], [0, 1, 2, 3, 4, 5, 6, 7, 8, 9, 10], [0, 1, 2, 3, 4, 5, 6, 7, 8, 9, 10, 11]] [0, 1, 6, 7, 55]) (.cond (.tmp 55) [] (.seq (.reg A18r12 [4]) .ret) [0, 1, 6, 7] .skip)) (.seq (.seq (.reg A18r13 [0, 1, 6, 7, 73]) (.cond (.tmp 73) [] (.seq (.reg A18r14 [4]) .ret) [0, 1, 6, 7] .skip)) (.seq (.reg A18r15 [0, 1, 6, 86]) (.cond (.tmp 86) [] (.seq (.reg A18r16 [4]) .ret) [0, 1, 6] .skip))))))
abbrev A18r18 : List AIns := [⟨(some 17), (.mv (.tmp 6)), none⟩, ⟨(some 18), (.bin .add (.tmp 17) (.cst (.int .i64 1))), none⟩, ⟨(some 6), (.mv (.tmp 18)), none⟩]
abbrev A18l6 : ACode := (.seq (.seq (.reg A18r7 [0, 1, 6, 16]) (.cond (.tmp 16) [0, 1, 6] .skip [] (.exit 0))) (.seq (.block 1 A18c17) (.reg A18r18 [0, 1, 6])))
abbrev A18r19 : List AIns := [⟨(some 4), (.mv (.cst (.int .i64 0))), none⟩]
def A18 : AFun := ⟨87, 2, [(.tmp 4)], (.seq (.reg A18r1 [0, 1]) (.seq (.seq (.reg A18r2 [0, 1, 5]) (.seq (.reg A18r3 [0, 1, 5, 11]) (.cond (.tmp 11) [5] (.seq (.reg A18r4 [4]) .ret) [0, 1] .skip))) (.seq (.seq (.reg A18r5 [0, 1, 6]) (.block 0 (.loop A18l6))) (.seq (.reg A18r19 [4]) .ret))))⟩
theorem A18c : compF Try.prog Try.f18 = some A18 := by kernel_rfl
theorem A18k : Callable Try.prog 18 := fun a w => Try.call18 a w
theorem A18p {ds : List D} {r : D} (hl : ds.length ≤ A18.nt) (hw : W Try.prog A18.code (Fin A18.results r) ⟨argEnv 0 ds, fun _ => none⟩) : PCon Try.prog 18 ds r := pcon_of_W mixed Try.func18 A18k A18c hl hw
/- estovers/estoverslaw39.Few -/
abbrev A19r1 : List AIns := [⟨(some 1), (.box (.tmp 0)), none⟩, ⟨(some 2), (.mv (.cst (.bool false))), none⟩]
abbrev A19r2 : List AIns := [⟨(some 3), (.faddr 0 (.tmp 1)), none⟩, ⟨(some 4), (.load false 1 (.tmp 3)), none⟩, ⟨(some 5), (.faddr 1 (.tmp 1)), none⟩, ⟨(some 6), (.load false 1 (.tmp 5)), none⟩, ⟨(some 7), (.call (.fnc 16) [(.tmp 4), (.tmp 6)]), none⟩, ⟨(some 2), (.mv (.tmp 7)), none⟩]
def A19 : AFun := ⟨8, 1, [(.tmp 2)], (.seq (.reg A19r1 [1]) (.seq (.reg A19r2 [2]) .ret))⟩
theorem A19c : compF Try.prog Try.f19 = some A19 := by kernel_rfl
theorem A19k : Callable Try.prog 19 := fun a w => Try.call19 a w
theorem A19p {ds : List D} {r : D} (hl : ds.length ≤ A19.nt) (hw : W Try.prog A19.code (Fin A19.results r) ⟨argEnv 0 ds, fun _ => none⟩) : PCon Try.prog 19 ds r := pcon_of_W mixed Try.func19 A19k A19c hl hw
/- estovers/reclaimplan.Reason -/
abbrev A20r1 : List AIns := [⟨(some 10), (.mv (.cst (.int .i64 0))), none⟩]
abbrev A20r2 : List AIns := [⟨(some 14), (.mv (.tmp 0)), none⟩, ⟨(some 15), (.mv (.tmp 1)), none⟩, ⟨(some 16), (.mv (.tmp 2)), none⟩, ⟨(some 17), (.mv (.tmp 4)), none⟩, ⟨(some 18), (.call (.fnc 42) [(.tmp 14), (.tmp 15), (.tmp 16), (.tmp 17)]), none⟩, ⟨(some 13), (.mv (.tmp 18)), none⟩, ⟨(some 19), (.extract 0 (.tmp 13)), none⟩, ⟨(some 20), (.extract 1 (.tmp 13)), none⟩, ⟨(some 11), (.mv (.tmp 19)), none⟩, ⟨(some 12), (.mv (.tmp 20)), none⟩]
abbrev A20r3 : List AIns := [⟨(some 21), (.mv (.tmp 12)), none⟩, ⟨(some 22), (.bin .neq (.tmp 21) (.cst (.int .i64 0))), none⟩, ⟨(some 23), (.mv (.tmp 22)), none⟩, ⟨(some 24), (.mv (.tmp 3)), (some (23, false))⟩, ⟨(some 25), (.bin .lss (.tmp 24) (.cst (.int .i64 0))), (some (23, false))⟩, ⟨(some 26), (.pick (.tmp 23) (.cst (.bool true)) (.tmp 25)), none⟩, ⟨(some 27), (.mv (.tmp 26)), none⟩, ⟨(some 28), (.mv (.tmp 3)), (some (27, false))⟩, ⟨(some 29), (.mv (.tmp 0)), (some (27, false))⟩, ⟨(some 30), (.len (.tmp 29)), (some (27, false))⟩, ⟨(some 31), (.bin .geq (.tmp 28) (.tmp 30)), (some (27, false))⟩, ⟨(some 32), (.pick (.tmp 27) (.cst (.bool true)) (.tmp 31)), none⟩]
abbrev A20r4 : List AIns := [⟨(some 10), (.mv (.cst (.int .i64 (-1)))), none⟩]
abbrev A20r5 : List AIns := [⟨(some 33), (.mv (.tmp 11)), none⟩, ⟨(some 34), (.mv (.tmp 0)), none⟩, ⟨(some 35), (.mv (.tmp 3)), none⟩, ⟨(some 36), (.iaddr 7 (.tmp 34) (.tmp 35)), none⟩, ⟨(some 37), (.load true 7 (.tmp 36)), none⟩, ⟨(some 38), (.call (.fnc 43) [(.tmp 33), (.tmp 37)]), none⟩, ⟨(some 10), (.mv (.tmp 38)), none⟩]
def A20 : AFun := ⟨39, 5, [(.tmp 10)], (.seq (.reg A20r1 [0, 1, 2, 3, 4]) (.seq (.reg A20r2 [0, 3, 11, 12]) (.seq (.seq (.reg A20r3 [0, 3, 11, 32]) (.cond (.tmp 32) [] (.seq (.reg A20r4 [10]) .ret) [0, 3, 11] .skip)) (.seq (.reg A20r5 [10]) .ret))))⟩
theorem A20c : compF Try.prog Try.f20 = some A20 := by kernel_rfl
theorem A20k : Callable Try.prog 20 := fun a w => Try.call20 a w
theorem A20p {ds : List D} {r : D} (hl : ds.length ≤ A20.nt) (hw : W Try.prog A20.code (Fin A20.results r) ⟨argEnv 0 ds, fun _ => none⟩) : PCon Try.prog 20 ds r := pcon_of_W mixed Try.func20 A20k A20c hl hw
/- estovers/estoversref39.Reason -/
/- estovers/estoversref39.Same -/
/- estovers/reclaimplan.Witness -/
abbrev A23r1 : List AIns := [⟨(some 8), (.mv (.cst .nil)), none⟩]
abbrev A23r2 : List AIns := [⟨(some 15), (.mv (.tmp 0)), none⟩, ⟨(some 16), (.mv (.tmp 1)), none⟩, ⟨(some 17), (.mv (.tmp 2)), none⟩, ⟨(some 18), (.mv (.tmp 3)), none⟩, ⟨(some 19), (.call (.fnc 42) [(.tmp 15), (.tmp 16), (.tmp 17), (.tmp 18)]), none⟩, ⟨(some 14), (.mv (.tmp 19)), none⟩, ⟨(some 20), (.extract 0 (.tmp 14)), none⟩, ⟨(some 21), (.extract 1 (.tmp 14)), none⟩, ⟨(some 9), (.mv (.tmp 20)), none⟩, ⟨(some 10), (.mv (.tmp 21)), none⟩]
abbrev A23r3 : List AIns := [⟨(some 22), (.mv (.tmp 10)), none⟩, ⟨(some 23), (.bin .neq (.tmp 22) (.cst (.int .i64 0))), none⟩]
abbrev A23r4 : List AIns := [⟨(some 8), (.mv (.cst .nil)), none⟩]
abbrev A23r5 : List AIns := [⟨(some 24), (.mv (.tmp 0)), none⟩, ⟨(some 25), (.call (.fnc 47) [(.tmp 24)]), none⟩, ⟨(some 11), (.mv (.tmp 25)), none⟩]
abbrev A23r6 : List AIns := [⟨(some 26), (.mv (.tmp 0)), none⟩, ⟨(some 27), (.len (.tmp 26)), none⟩, ⟨(some 28), (.mv (.cst (.int .i64 0))), none⟩]
abbrev A23r8 : List AIns := [⟨(some 29), (.bin .lss (.tmp 28) (.tmp 27)), none⟩]
abbrev A23r9 : List AIns := [⟨(some 30), (.mv (.tmp 28)), none⟩, ⟨(some 31), (.iaddr 7 (.tmp 26) (.tmp 28)), none⟩, ⟨(some 32), (.load true 7 (.tmp 31)), none⟩, ⟨(some 13), (.alloc [(.int .i64 0), (.int .i64 0), (.int .i64 0), (.int .i64 0), (.int .i64 0), (.bool false), (.bool false)]), none⟩, ⟨(some 12), (.mv (.tmp 30)), none⟩, ⟨none, (.store 7 (.tmp 13) (.tmp 32)), none⟩]
abbrev A23r10 : List AIns := [⟨(some 33), (.mv (.tmp 11)), none⟩, ⟨(some 34), (.mv (.tmp 12)), none⟩, ⟨(some 35), (.mv (.tmp 9)), none⟩, ⟨(some 36), (.load true 7 (.tmp 13)), none⟩, ⟨(some 37), (.call (.fnc 43) [(.tmp 35), (.tmp 36)]), none⟩, ⟨(some 38), (.iaddr 7 (.tmp 33) (.tmp 34)), none⟩, ⟨(some 39), (.faddr 3 (.tmp 38)), none⟩, ⟨none, (.store 1 (.tmp 39) (.tmp 37)), none⟩]
abbrev A23c11 : ACode := (.seq (.reg A23r9 [9, 11, 12, 13, 26, 27, 28]) (.reg A23r10 [9, 11, 26, 27, 28]))
abbrev A23r12 : List AIns := [⟨(some 40), (.bin .add (.tmp 28) (.cst (.int .i64 1))), none⟩, ⟨(some 28), (.mv (.tmp 40)), none⟩]
abbrev A23l7 : ACode := (.seq (.reg A23r8 [9, 11, 26, 27, 28, 29]) (.seq (.cond (.tmp 29) [9, 11, 26, 27, 28] .skip [11] (.exit 0)) (.seq (.block 1 A23c11) (.reg A23r12 [9, 11, 26, 27, 28]))))
abbrev A23r13 : List AIns := [⟨(some 41), (.mv (.tmp 11)), none⟩, ⟨(some 8), (.mv (.tmp 41)), none⟩]
def A23 : AFun := ⟨42, 4, [(.tmp 8)], (.seq (.reg A23r1 [0, 1, 2, 3]) (.seq (.reg A23r2 [0, 9, 10]) (.seq (.seq (.reg A23r3 [0, 9, 23]) (.cond (.tmp 23) [] (.seq (.reg A23r4 [8]) .ret) [0, 9] .skip)) (.seq (.reg A23r5 [0, 9, 11]) (.seq (.seq (.reg A23r6 [9, 11, 26, 27, 28]) (.block 0 (.loop A23l7))) (.seq (.reg A23r13 [8]) .ret))))))⟩
theorem A23c : compF Try.prog Try.f23 = some A23 := by kernel_rfl
theorem A23k : Callable Try.prog 23 := fun a w => Try.call23 a w
theorem A23p {ds : List D} {r : D} (hl : ds.length ≤ A23.nt) (hw : W Try.prog A23.code (Fin A23.results r) ⟨argEnv 0 ds, fun _ => none⟩) : PCon Try.prog 23 ds r := pcon_of_W mixed Try.func23 A23k A23c hl hw
/- estovers/estoversref39.Witness -/
/- estovers/reclaimplan.Next -/
abbrev A25r1 : List AIns := [⟨(some 8), (.mv (.cst (.int .i64 0))), none⟩]
abbrev A25r2 : List AIns := [⟨(some 17), (.mv (.tmp 0)), none⟩, ⟨(some 18), (.mv (.tmp 1)), none⟩, ⟨(some 19), (.mv (.tmp 2)), none⟩, ⟨(some 20), (.mv (.tmp 3)), none⟩, ⟨(some 21), (.call (.fnc 42) [(.tmp 17), (.tmp 18), (.tmp 19), (.tmp 20)]), none⟩, ⟨(some 16), (.mv (.tmp 21)), none⟩, ⟨(some 22), (.extract 0 (.tmp 16)), none⟩, ⟨(some 23), (.extract 1 (.tmp 16)), none⟩, ⟨(some 9), (.mv (.tmp 22)), none⟩, ⟨(some 10), (.mv (.tmp 23)), none⟩]
abbrev A25r3 : List AIns := [⟨(some 24), (.mv (.tmp 10)), none⟩, ⟨(some 25), (.bin .neq (.tmp 24) (.cst (.int .i64 0))), none⟩]
abbrev A25r4 : List AIns := [⟨(some 8), (.mv (.cst (.int .i64 (-1)))), none⟩]
abbrev A25r5 : List AIns := [⟨(some 11), (.mv (.cst (.int .i64 (-1)))), none⟩, ⟨(some 12), (.mv (.cst (.bool false))), none⟩]
abbrev A25r6 : List AIns := [⟨(some 26), (.mv (.tmp 0)), none⟩, ⟨(some 27), (.len (.tmp 26)), none⟩, ⟨(some 28), (.mv (.cst (.int .i64 0))), none⟩]
abbrev A25r8 : List AIns := [⟨(some 29), (.bin .lss (.tmp 28) (.tmp 27)), none⟩]
abbrev A25r9 : List AIns := [⟨(some 30), (.mv (.tmp 28)), none⟩, ⟨(some 31), (.iaddr 7 (.tmp 26) (.tmp 28)), none⟩, ⟨(some 32), (.load true 7 (.tmp 31)), none⟩, ⟨(some 14), (.alloc [(.int .i64 0), (.int .i64 0), (.int .i64 0), (.int .i64 0), (.int .i64 0), (.bool false), (.bool false)]), none⟩, ⟨(some 13), (.mv (.tmp 30)), none⟩, ⟨none, (.store 7 (.tmp 14) (.tmp 32)), none⟩]
abbrev A25r10 : List AIns := [⟨(some 33), (.mv (.tmp 9)), none⟩, ⟨(some 34), (.load true 7 (.tmp 14)), none⟩, ⟨(some 35), (.call (.fnc 43) [(.tmp 33), (.tmp 34)]), none⟩, ⟨(some 36), (.bin .neq (.tmp 35) (.cst (.int .i64 0))), none⟩]
abbrev A25d11 : List AIns := [⟨(some 37), (.faddr 1 (.tmp 14)), none⟩, ⟨(some 38), (.load false 1 (.tmp 37)), none⟩, ⟨(some 39), (.bin .lss (.tmp 38) (.cst (.int .i64 0))), none⟩, ⟨(some 40), (.mv (.tmp 39)), none⟩, ⟨(some 41), (.mv (.tmp 9)), (some (40, false))⟩, ⟨(some 42), (.nilck (.tmp 41)), (some (40, false))⟩, ⟨(some 43), (.faddr 5 (.tmp 42)), (some (40, false))⟩, ⟨(some 44), (.load false 1 (.tmp 43)), (some (40, false))⟩, ⟨(some 45), (.faddr 1 (.tmp 14)), (some (40, false))⟩, ⟨(some 46), (.load false 1 (.tmp 45)), (some (40, false))⟩, ⟨(some 47), (.iaddr 1 (.tmp 44) (.tmp 46)), (some (40, false))⟩, ⟨(some 48), (.load false 1 (.tmp 47)), (some (40, false))⟩, ⟨(some 49), (.un .not (.tmp 48)), (some (40, false))⟩, ⟨(some 50), (.pick (.tmp 40) (.cst (.bool true)) (.tmp 49)), none⟩, ⟨(some 15), (.mv (.tmp 50)), none⟩]
abbrev A25d12 : List AIns := [⟨(some 51), (.mv (.tmp 11)), none⟩, ⟨(some 52), (.bin .lss (.tmp 51) (.cst (.int .i64 0))), none⟩, ⟨(some 53), (.mv (.tmp 52)), none⟩, ⟨(some 54), (.mv (.tmp 15)), (some (53, false))⟩, ⟨(some 55), (.mv (.tmp 54)), (some (53, false))⟩, ⟨(some 56), (.mv (.tmp 12)), (some (55, true))⟩, ⟨(some 57), (.un .not (.tmp 56)), (some (55, true))⟩, ⟨(some 58), (.pick (.tmp 55) (.tmp 57) (.cst (.bool false))), (some (53, false))⟩, ⟨(some 59), (.pick (.tmp 53) (.cst (.bool true)) (.tmp 58)), none⟩, ⟨(some 60), (.mv (.tmp 59)), none⟩, ⟨(some 61), (.mv (.tmp 15)), (some (60, false))⟩, ⟨(some 62), (.mv (.tmp 12)), (some (60, false))⟩, ⟨(some 63), (.eqB false (.tmp 61) (.tmp 62)), (some (60, false))⟩, ⟨(some 64), (.mv (.tmp 63)), (some (60, false))⟩, ⟨(some 65), (.faddr 2 (.tmp 14)), (some (64, true))⟩, ⟨(some 66), (.load false 1 (.tmp 65)), (some (64, true))⟩, ⟨(some 67), (.mv (.tmp 0)), (some (64, true))⟩, ⟨(some 68), (.mv (.tmp 11)), (some (64, true))⟩, ⟨(some 69), (.iaddr 7 (.tmp 67) (.tmp 68)), (some (64, true))⟩, ⟨(some 70), (.faddr 2 (.tmp 69)), (some (64, true))⟩, ⟨(some 71), (.load false 1 (.tmp 70)), (some (64, true))⟩, ⟨(some 72), (.bin .lss (.tmp 66) (.tmp 71)), (some (64, true))⟩, ⟨(some 73), (.pick (.tmp 64) (.tmp 72) (.cst (.bool false))), (some (60, false))⟩, ⟨(some 74), (.pick (.tmp 60) (.cst (.bool true)) (.tmp 73)), none⟩]
abbrev A25r13 : List AIns := [⟨(some 75), (.mv (.tmp 13)), none⟩, ⟨(some 76), (.mv (.tmp 15)), none⟩, ⟨(some 11), (.mv (.tmp 75)), none⟩, ⟨(some 12), (.mv (.tmp 76)), none⟩]
abbrev A25c14 : ACode := (.seq (.reg A25r9 [0, 9, 11, 12, 13, 14, 26, 27, 28]) (.seq (.seq (.reg A25r10 [0, 9, 11, 12, 13, 14, 26, 27, 28, 36]) (.cond (.tmp 36) [0, 9, 11, 12, 26, 27, 28] (.exit 1) [0, 9, 11, 12, 13, 14, 26, 27, 28] .skip)) (.seq (.dreg A25d11 [[], [0], [0, 1], [0, 1, 2], [0, 1, 2, 3], [0, 1, 2, 3, 4], [0, 1, 2, 3, 4, 5], [0, 1, 2, 3, 4, 5, 6], [0, 1, 2, 3], [0, 1, 2, 3, 8], [0, 1, 2, 3, 4, 5, 6, 7, 8, 9], [0, 1, 2, 3, 4, 5, 6, 7, 8, 9, 10], [0, 1, 2, 3, 4, 5, 6, 7, 8, 9, 10, 11], [0, 1, 2, 3, 4, 5, 6, 7, 8, 9, 10, 11, 12], [0, 1, 2, 3, 4, 5, 6, 7, 8, 9, 10, 11, 12, 13]] [0, 9, 11, 12, 13, 14, 15, 26, 27, 28]) (.seq (.dreg A25d12 [[], [0], [0, 1], [0, 1, 2], [0, 1, 2, 3], [0, 1, 2, 3, 4], [0, 1, 2, 3, 4, 5], [0, 1, 2, 3, 4, 5, 6], [0, 1, 2, 3, 4, 5, 6, 7], [0, 1, 2, 3, 4, 5, 6, 7, 8], [0, 1, 2, 3, 4, 5, 6, 7, 8, 9], [0, 1, 2, 3, 4, 5, 6, 7, 8, 9], [0, 1, 2, 3, 4, 5, 6, 7, 8, 9, 10, 11], [0, 1, 2, 3, 4, 5, 6, 7, 8, 9, 10, 11, 12], [0, 1, 2, 3, 4, 5, 6, 7, 8, 9, 10, 11, 12, 13], [0, 1, 2, 3, 4, 5, 6, 7, 8, 9, 10, 11, 12, 13, 14], [0, 1, 2, 3, 4, 5, 6, 7, 8, 9, 10, 11, 12, 13], [0, 1, 2, 3, 4, 5, 6, 7, 8, 9, 10, 11, 12, 13], [0, 1, 2, 3, 4, 5, 6, 7, 8, 9, 10, 11, 12, 13, 16, 17], [0, 1, 2, 3, 4, 5, 6, 7, 8, 9, 10, 11, 12, 13, 16, 17, 18], [0, 1, 2, 3, 4, 5, 6, 7, 8, 9, 10, 11, 12, 13, 16, 17, 18, 19], [0, 1, 2, 3, 4, 5, 6, 7, 8, 9, 10, 11, 12, 13, 14, 15, 16, 17, 18, 19, 20], [0, 1, 2, 3, 4, 5, 6, 7, 8, 9, 10, 11, 12, 13, 14, 15, 16, 17, 18, 19, 20, 21], [0, 1, 2, 3, 4, 5, 6, 7, 8, 9, 10, 11, 12, 13, 14, 15, 16, 17, 18, 19, 20, 21, 22]] [0, 9, 11, 12, 13, 15, 26, 27, 28, 74]) (.cond (.tmp 74) [0, 9, 13, 15, 26, 27, 28] (.reg A25r13 [0, 9, 11, 12, 26, 27, 28]) [0, 9, 11, 12, 26, 27, 28] .skip)))))
abbrev A25r15 : List AIns := [⟨(some 77), (.bin .add (.tmp 28) (.cst (.int .i64 1))), none⟩, ⟨(some 28), (.mv (.tmp 77)), none⟩]
abbrev A25l7 : ACode := (.seq (.reg A25r8 [0, 9, 11, 12, 26, 27, 28, 29]) (.seq (.cond (.tmp 29) [0, 9, 11, 12, 26, 27, 28] .skip [11] (.exit 0)) (.seq (.block 1 A25c14) (.reg A25r15 [0, 9, 11, 12, 26, 27, 28]))))
abbrev A25r16 : List AIns := [⟨(some 78), (.mv (.tmp 11)), none⟩, ⟨(some 8), (.mv (.tmp 78)), none⟩]
def A25 : AFun := ⟨79, 4, [(.tmp 8)], (.seq (.reg A25r1 [0, 1, 2, 3]) (.seq (.reg A25r2 [0, 9, 10]) (.seq (.seq (.reg A25r3 [0, 9, 25]) (.cond (.tmp 25) [] (.seq (.reg A25r4 [8]) .ret) [0, 9] .skip)) (.seq (.reg A25r5 [0, 9, 11, 12]) (.seq (.seq (.reg A25r6 [0, 9, 11, 12, 26, 27, 28]) (.block 0 (.loop A25l7))) (.seq (.reg A25r16 [8]) .ret))))))⟩
theorem A25c : compF Try.prog Try.f25 = some A25 := by kernel_rfl
theorem A25k : Callable Try.prog 25 := fun a w => Try.call25 a w
theorem A25p {ds : List D} {r : D} (hl : ds.length ≤ A25.nt) (hw : W Try.prog A25.code (Fin A25.results r) ⟨argEnv 0 ds, fun _ => none⟩) : PCon Try.prog 25 ds r := pcon_of_W mixed Try.func25 A25k A25c hl hw
/- estovers/estoversref39.Next -/
/- estovers/reclaimplan.Useful -/
abbrev A27r1 : List AIns := [⟨(some 8), (.mv (.cst (.int .i64 0))), none⟩]
abbrev A27r2 : List AIns := [⟨(some 15), (.mv (.tmp 0)), none⟩, ⟨(some 16), (.mv (.tmp 1)), none⟩, ⟨(some 17), (.mv (.tmp 2)), none⟩, ⟨(some 18), (.mv (.tmp 3)), none⟩, ⟨(some 19), (.call (.fnc 42) [(.tmp 15), (.tmp 16), (.tmp 17), (.tmp 18)]), none⟩, ⟨(some 14), (.mv (.tmp 19)), none⟩, ⟨(some 20), (.extract 0 (.tmp 14)), none⟩, ⟨(some 21), (.extract 1 (.tmp 14)), none⟩, ⟨(some 9), (.mv (.tmp 20)), none⟩, ⟨(some 10), (.mv (.tmp 21)), none⟩]
abbrev A27r3 : List AIns := [⟨(some 22), (.mv (.tmp 10)), none⟩, ⟨(some 23), (.bin .neq (.tmp 22) (.cst (.int .i64 0))), none⟩]
abbrev A27r4 : List AIns := [⟨(some 8), (.mv (.cst (.int .i64 0))), none⟩]
abbrev A27r5 : List AIns := [⟨(some 11), (.mv (.cst (.int .i64 0))), none⟩]
abbrev A27r6 : List AIns := [⟨(some 24), (.mv (.tmp 0)), none⟩, ⟨(some 25), (.len (.tmp 24)), none⟩, ⟨(some 26), (.mv (.cst (.int .i64 0))), none⟩]
abbrev A27r8 : List AIns := [⟨(some 27), (.bin .lss (.tmp 26) (.tmp 25)), none⟩]
abbrev A27r9 : List AIns := [⟨(some 28), (.iaddr 7 (.tmp 24) (.tmp 26)), none⟩, ⟨(some 29), (.load true 7 (.tmp 28)), none⟩, ⟨(some 13), (.alloc [(.int .i64 0), (.int .i64 0), (.int .i64 0), (.int .i64 0), (.int .i64 0), (.bool false), (.bool false)]), none⟩, ⟨none, (.store 7 (.tmp 13) (.tmp 29)), none⟩]
abbrev A27r10 : List AIns := [⟨(some 30), (.faddr 6 (.tmp 13)), none⟩, ⟨(some 31), (.load false 1 (.tmp 30)), none⟩, ⟨(some 32), (.mv (.tmp 31)), none⟩, ⟨(some 33), (.mv (.tmp 9)), (some (32, true))⟩, ⟨(some 34), (.load true 7 (.tmp 13)), (some (32, true))⟩, ⟨(some 35), (.call (.fnc 43) [(.tmp 33), (.tmp 34)]), (some (32, true))⟩, ⟨(some 36), (.bin .eql (.tmp 35) (.cst (.int .i64 8))), (some (32, true))⟩, ⟨(some 37), (.pick (.tmp 32) (.tmp 36) (.cst (.bool false))), none⟩]
abbrev A27r11 : List AIns := [⟨(some 38), (.mv (.tmp 11)), none⟩, ⟨(some 39), (.bin .add (.tmp 38) (.cst (.int .i64 1))), none⟩, ⟨(some 11), (.mv (.tmp 39)), none⟩]
abbrev A27c12 : ACode := (.seq (.reg A27r9 [9, 11, 13, 24, 25, 26]) (.seq (.reg A27r10 [9, 11, 24, 25, 26, 37]) (.cond (.tmp 37) [9, 11, 24, 25, 26] (.reg A27r11 [9, 11, 24, 25, 26]) [9, 11, 24, 25, 26] .skip)))
abbrev A27r13 : List AIns := [⟨(some 40), (.bin .add (.tmp 26) (.cst (.int .i64 1))), none⟩, ⟨(some 26), (.mv (.tmp 40)), none⟩]
abbrev A27l7 : ACode := (.seq (.reg A27r8 [9, 11, 24, 25, 26, 27]) (.seq (.cond (.tmp 27) [9, 11, 24, 25, 26] .skip [11] (.exit 0)) (.seq (.block 1 A27c12) (.reg A27r13 [9, 11, 24, 25, 26]))))
abbrev A27r14 : List AIns := [⟨(some 41), (.mv (.tmp 11)), none⟩, ⟨(some 8), (.mv (.tmp 41)), none⟩]
def A27 : AFun := ⟨42, 4, [(.tmp 8)], (.seq (.reg A27r1 [0, 1, 2, 3]) (.seq (.reg A27r2 [0, 9, 10]) (.seq (.seq (.reg A27r3 [0, 9, 23]) (.cond (.tmp 23) [] (.seq (.reg A27r4 [8]) .ret) [0, 9] .skip)) (.seq (.reg A27r5 [0, 9, 11]) (.seq (.seq (.reg A27r6 [9, 11, 24, 25, 26]) (.block 0 (.loop A27l7))) (.seq (.reg A27r14 [8]) .ret))))))⟩
theorem A27c : compF Try.prog Try.f27 = some A27 := by kernel_rfl
theorem A27k : Callable Try.prog 27 := fun a w => Try.call27 a w
theorem A27p {ds : List D} {r : D} (hl : ds.length ≤ A27.nt) (hw : W Try.prog A27.code (Fin A27.results r) ⟨argEnv 0 ds, fun _ => none⟩) : PCon Try.prog 27 ds r := pcon_of_W mixed Try.func27 A27k A27c hl hw
/- estovers/estoversref39.Useful -/
/- estovers/reclaimplan.Transit -/
abbrev A29r1 : List AIns := [⟨(some 8), (.mv (.cst (.bool false))), none⟩]
abbrev A29r2 : List AIns := [⟨(some 12), (.mv (.tmp 0)), none⟩, ⟨(some 13), (.mv (.tmp 1)), none⟩, ⟨(some 14), (.mv (.tmp 2)), none⟩, ⟨(some 15), (.mv (.tmp 3)), none⟩, ⟨(some 16), (.call (.fnc 42) [(.tmp 12), (.tmp 13), (.tmp 14), (.tmp 15)]), none⟩, ⟨(some 11), (.mv (.tmp 16)), none⟩, ⟨(some 17), (.extract 0 (.tmp 11)), none⟩, ⟨(some 18), (.extract 1 (.tmp 11)), none⟩, ⟨(some 9), (.mv (.tmp 17)), none⟩, ⟨(some 10), (.mv (.tmp 18)), none⟩]
abbrev A29r3 : List AIns := [⟨(some 19), (.mv (.tmp 10)), none⟩, ⟨(some 20), (.bin .eql (.tmp 19) (.cst (.int .i64 0))), none⟩, ⟨(some 21), (.mv (.tmp 20)), none⟩, ⟨(some 22), (.mv (.tmp 0)), (some (21, true))⟩, ⟨(some 23), (.mv (.tmp 9)), (some (21, true))⟩, ⟨(some 24), (.mkfn 51 [(.tmp 23)] []), (some (21, true))⟩, ⟨(some 25), (.call (.fnc 50) [(.tmp 22), (.tmp 24)]), (some (21, true))⟩, ⟨(some 26), (.pick (.tmp 21) (.tmp 25) (.cst (.bool false))), none⟩, ⟨(some 8), (.mv (.tmp 26)), none⟩]
def A29 : AFun := ⟨27, 4, [(.tmp 8)], (.seq (.reg A29r1 [0, 1, 2, 3]) (.seq (.reg A29r2 [0, 9, 10]) (.seq (.reg A29r3 [8]) .ret)))⟩
theorem A29c : compF Try.prog Try.f29 = some A29 := by kernel_rfl
theorem A29k : Callable Try.prog 29 := fun a w => Try.call29 a w
theorem A29p {ds : List D} {r : D} (hl : ds.length ≤ A29.nt) (hw : W Try.prog A29.code (Fin A29.results r) ⟨argEnv 0 ds, fun _ => none⟩) : PCon Try.prog 29 ds r := pcon_of_W mixed Try.func29 A29k A29c hl hw
/- estovers/estoversref39.Transit -/
/- estovers/reclaimplan.Verify -/
abbrev A31r1 : List AIns := [⟨(some 10), (.mv (.cst (.int .i64 0))), none⟩]
abbrev A31r2 : List AIns := [⟨(some 18), (.mv (.tmp 0)), none⟩, ⟨(some 19), (.mv (.tmp 1)), none⟩, ⟨(some 20), (.mv (.tmp 2)), none⟩, ⟨(some 21), (.mv (.tmp 3)), none⟩, ⟨(some 22), (.call (.fnc 42) [(.tmp 18), (.tmp 19), (.tmp 20), (.tmp 21)]), none⟩, ⟨(some 17), (.mv (.tmp 22)), none⟩, ⟨(some 23), (.extract 0 (.tmp 17)), none⟩, ⟨(some 24), (.extract 1 (.tmp 17)), none⟩, ⟨(some 11), (.mv (.tmp 23)), none⟩, ⟨(some 12), (.mv (.tmp 24)), none⟩]
abbrev A31r3 : List AIns := [⟨(some 25), (.mv (.tmp 12)), none⟩, ⟨(some 26), (.bin .neq (.tmp 25) (.cst (.int .i64 0))), none⟩]
abbrev A31r4 : List AIns := [⟨(some 27), (.mv (.tmp 12)), none⟩, ⟨(some 10), (.mv (.tmp 27)), none⟩]
abbrev A31r5 : List AIns := [⟨(some 28), (.mv (.tmp 4)), none⟩, ⟨(some 29), (.len (.tmp 28)), none⟩, ⟨(some 30), (.mv (.tmp 0)), none⟩, ⟨(some 31), (.len (.tmp 30)), none⟩, ⟨(some 32), (.bin .neq (.tmp 29) (.tmp 31)), none⟩]
abbrev A31r6 : List AIns := [⟨(some 10), (.mv (.cst (.int .i64 3))), none⟩]
abbrev A31r7 : List AIns := [⟨(some 33), (.mv (.tmp 4)), none⟩, ⟨(some 34), (.len (.tmp 33)), none⟩, ⟨(some 35), (.mv (.cst (.int .i64 0))), none⟩]
abbrev A31r9 : List AIns := [⟨(some 36), (.bin .lss (.tmp 35) (.tmp 34)), none⟩]
abbrev A31r10 : List AIns := [⟨(some 37), (.mv (.tmp 35)), none⟩, ⟨(some 38), (.iaddr 7 (.tmp 33) (.tmp 35)), none⟩, ⟨(some 39), (.load true 7 (.tmp 38)), none⟩, ⟨(some 14), (.alloc [(.int .i64 0), (.int .i64 0), (.int .i64 0), (.int .i64 0), (.int .i64 0), (.bool false), (.bool false)]), none⟩, ⟨(some 13), (.mv (.tmp 37)), none⟩, ⟨none, (.store 7 (.tmp 14) (.tmp 39)), none⟩]
abbrev A31r11 : List AIns := [⟨(some 40), (.mv (.tmp 0)), none⟩, ⟨(some 41), (.mv (.tmp 13)), none⟩, ⟨(some 42), (.iaddr 7 (.tmp 40) (.tmp 41)), none⟩, ⟨(some 43), (.faddr 3 (.tmp 42)), none⟩, ⟨(some 44), (.load false 1 (.tmp 43)), none⟩, ⟨(some 45), (.faddr 3 (.tmp 14)), none⟩, ⟨none, (.store 1 (.tmp 45) (.tmp 44)), none⟩]
abbrev A31d12 : List AIns := [⟨(some 46), (.load true 7 (.tmp 14)), none⟩, ⟨(some 47), (.mv (.tmp 0)), none⟩, ⟨(some 48), (.mv (.tmp 13)), none⟩, ⟨(some 49), (.iaddr 7 (.tmp 47) (.tmp 48)), none⟩, ⟨(some 50), (.load true 7 (.tmp 49)), none⟩, ⟨(some 51), (.eqA true [1, 1, 1, 1, 1, 0, 0] (.tmp 46) (.tmp 50)), none⟩]
abbrev A31r13 : List AIns := [⟨(some 10), (.mv (.cst (.int .i64 3))), none⟩]
abbrev A31c14 : ACode := (.seq (.reg A31r10 [0, 4, 11, 13, 14, 33, 34, 35]) (.seq (.reg A31r11 [0, 4, 11, 13, 14, 33, 34, 35]) (.seq (.dreg A31d12 [[], [], [], [1, 2], [1, 2, 3], [0, 1, 2, 3, 4]] [0, 4, 11, 33, 34, 35, 51]) (.cond (.tmp 51) [] (.seq (.reg A31r13 [10]) .ret) [0, 4, 11, 33, 34, 35] .skip))))
abbrev A31r15 : List AIns := [⟨(some 52), (.bin .add (.tmp 35) (.cst (.int .i64 1))), none⟩, ⟨(some 35), (.mv (.tmp 52)), none⟩]
abbrev A31l8 : ACode := (.seq (.reg A31r9 [0, 4, 11, 33, 34, 35, 36]) (.seq (.cond (.tmp 36) [0, 4, 11, 33, 34, 35] .skip [0, 4, 11] (.exit 0)) (.seq (.block 1 A31c14) (.reg A31r15 [0, 4, 11, 33, 34, 35]))))
abbrev A31r16 : List AIns := [⟨(some 53), (.mv (.tmp 4)), none⟩, ⟨(some 54), (.len (.tmp 53)), none⟩, ⟨(some 55), (.mv (.cst (.int .i64 0))), none⟩]
abbrev A31r18 : List AIns := [⟨(some 56), (.bin .lss (.tmp 55) (.tmp 54)), none⟩]
abbrev A31r19 : List AIns := [⟨(some 57), (.mv (.tmp 55)), none⟩, ⟨(some 58), (.iaddr 7 (.tmp 53) (.tmp 55)), none⟩, ⟨(some 59), (.load true 7 (.tmp 58)), none⟩, ⟨(some 16), (.alloc [(.int .i64 0), (.int .i64 0), (.int .i64 0), (.int .i64 0), (.int .i64 0), (.bool false), (.bool false)]), none⟩, ⟨(some 15), (.mv (.tmp 57)), none⟩, ⟨none, (.store 7 (.tmp 16) (.tmp 59)), none⟩]
abbrev A31d20 : List AIns := [⟨(some 60), (.mv (.tmp 11)), none⟩, ⟨(some 61), (.mv (.tmp 0)), none⟩, ⟨(some 62), (.mv (.tmp 15)), none⟩, ⟨(some 63), (.iaddr 7 (.tmp 61) (.tmp 62)), none⟩, ⟨(some 64), (.load true 7 (.tmp 63)), none⟩, ⟨(some 65), (.faddr 3 (.tmp 16)), none⟩, ⟨(some 66), (.load false 1 (.tmp 65)), none⟩, ⟨(some 67), (.call (.fnc 52) [(.tmp 60), (.tmp 64), (.tmp 66)]), none⟩, ⟨(some 68), (.un .not (.tmp 67)), none⟩]
abbrev A31r21 : List AIns := [⟨(some 10), (.mv (.cst (.int .i64 19))), none⟩]
abbrev A31c22 : ACode := (.seq (.reg A31r19 [0, 11, 15, 16, 53, 54, 55]) (.seq (.dreg A31d20 [[], [], [], [1, 2], [1, 2, 3], [], [5], [0, 1, 2, 3, 4, 5, 6], [0, 1, 2, 3, 4, 5, 6, 7]] [0, 11, 53, 54, 55, 68]) (.cond (.tmp 68) [] (.seq (.reg A31r21 [10]) .ret) [0, 11, 53, 54, 55] .skip)))
abbrev A31r23 : List AIns := [⟨(some 69), (.bin .add (.tmp 55) (.cst (.int .i64 1))), none⟩, ⟨(some 55), (.mv (.tmp 69)), none⟩]
abbrev A31l17 : ACode := (.seq (.reg A31r18 [0, 11, 53, 54, 55, 56]) (.seq (.cond (.tmp 56) [0, 11, 53, 54, 55] .skip [] (.exit 2)) (.seq (.block 3 A31c22) (.reg A31r23 [0, 11, 53, 54, 55]))))
abbrev A31r24 : List AIns := [⟨(some 10), (.mv (.cst (.int .i64 0))), none⟩]
def A31 : AFun := ⟨70, 5, [(.tmp 10)], (.seq (.reg A31r1 [0, 1, 2, 3, 4]) (.seq (.reg A31r2 [0, 4, 11, 12]) (.seq (.seq (.reg A31r3 [0, 4, 11, 12, 26]) (.cond (.tmp 26) [12] (.seq (.reg A31r4 [10]) .ret) [0, 4, 11] .skip)) (.seq (.seq (.reg A31r5 [0, 4, 11, 32]) (.cond (.tmp 32) [] (.seq (.reg A31r6 [10]) .ret) [0, 4, 11] .skip)) (.seq (.seq (.reg A31r7 [0, 4, 11, 33, 34, 35]) (.block 0 (.loop A31l8))) (.seq (.seq (.reg A31r16 [0, 11, 53, 54, 55]) (.block 2 (.loop A31l17))) (.seq (.reg A31r24 [10]) .ret)))))))⟩
theorem A31c : compF Try.prog Try.f31 = some A31 := by kernel_rfl
theorem A31k : Callable Try.prog 31 := fun a w => Try.call31 a w
theorem A31p {ds : List D} {r : D} (hl : ds.length ≤ A31.nt) (hw : W Try.prog A31.code (Fin A31.results r) ⟨argEnv 0 ds, fun _ => none⟩) : PCon Try.prog 31 ds r := pcon_of_W mixed Try.func31 A31k A31c hl hw
/- estovers/estoversref39.Verify -/
abbrev A32r1 : List AIns := [⟨(some 10), (.mv (.cst (.int .i64 0))), none⟩]
abbrev A32r2 : List AIns := [⟨(some 16), (.mv (.tmp 0)), none⟩, ⟨(some 17), (.mv (.tmp 1)), none⟩, ⟨(some 18), (.call (.fnc 18) [(.tmp 16), (.tmp 17)]), none⟩, ⟨(some 11), (.mv (.tmp 18)), none⟩]
abbrev A32r3 : List AIns := [⟨(some 19), (.mv (.tmp 11)), none⟩, ⟨(some 20), (.bin .neq (.tmp 19) (.cst (.int .i64 0))), none⟩]
abbrev A32r4 : List AIns := [⟨(some 21), (.mv (.tmp 11)), none⟩, ⟨(some 10), (.mv (.tmp 21)), none⟩]
abbrev A32r5 : List AIns := [⟨(some 22), (.mv (.tmp 2)), none⟩, ⟨(some 23), (.bin .lss (.tmp 22) (.cst (.int .i64 (-1)))), none⟩, ⟨(some 24), (.mv (.tmp 23)), none⟩, ⟨(some 25), (.mv (.tmp 2)), (some (24, false))⟩, ⟨(some 26), (.mv (.tmp 1)), (some (24, false))⟩, ⟨(some 27), (.len (.tmp 26)), (some (24, false))⟩, ⟨(some 28), (.bin .geq (.tmp 25) (.tmp 27)), (some (24, false))⟩, ⟨(some 29), (.pick (.tmp 24) (.cst (.bool true)) (.tmp 28)), none⟩]
abbrev A32r6 : List AIns := [⟨(some 10), (.mv (.cst (.int .i64 2))), none⟩]
abbrev A32r7 : List AIns := [⟨(some 30), (.mv (.tmp 4)), none⟩, ⟨(some 31), (.len (.tmp 30)), none⟩, ⟨(some 32), (.mv (.tmp 0)), none⟩, ⟨(some 33), (.len (.tmp 32)), none⟩, ⟨(some 34), (.bin .neq (.tmp 31) (.tmp 33)), none⟩]
abbrev A32r8 : List AIns := [⟨(some 10), (.mv (.cst (.int .i64 3))), none⟩]
abbrev A32r9 : List AIns := [⟨(some 12), (.mv (.cst (.int .i64 0))), none⟩]
abbrev A32r11 : List AIns := [⟨(some 35), (.mv (.tmp 12)), none⟩, ⟨(some 36), (.mv (.tmp 0)), none⟩, ⟨(some 37), (.len (.tmp 36)), none⟩, ⟨(some 38), (.bin .lss (.tmp 35) (.tmp 37)), none⟩]
abbrev A32r12 : List AIns := [⟨(some 41), (.mv (.tmp 0)), none⟩, ⟨(some 42), (.mv (.tmp 12)), none⟩, ⟨(some 43), (.iaddr 7 (.tmp 41) (.tmp 42)), none⟩, ⟨(some 44), (.load true 7 (.tmp 43)), none⟩, ⟨(some 13), (.alloc [(.int .i64 0), (.int .i64 0), (.int .i64 0), (.int .i64 0), (.int .i64 0), (.bool false), (.bool false)]), none⟩, ⟨none, (.store 7 (.tmp 13) (.tmp 44)), none⟩]
abbrev A32r13 : List AIns := [⟨(some 45), (.mv (.tmp 4)), none⟩, ⟨(some 46), (.mv (.tmp 12)), none⟩, ⟨(some 47), (.iaddr 7 (.tmp 45) (.tmp 46)), none⟩, ⟨(some 48), (.faddr 3 (.tmp 47)), none⟩, ⟨(some 49), (.load false 1 (.tmp 48)), none⟩, ⟨(some 50), (.faddr 3 (.tmp 13)), none⟩, ⟨none, (.store 1 (.tmp 50) (.tmp 49)), none⟩]
abbrev A32d14 : List AIns := [⟨(some 51), (.load true 7 (.tmp 13)), none⟩, ⟨(some 52), (.mv (.tmp 4)), none⟩, ⟨(some 53), (.mv (.tmp 12)), none⟩, ⟨(some 54), (.iaddr 7 (.tmp 52) (.tmp 53)), none⟩, ⟨(some 55), (.load true 7 (.tmp 54)), none⟩, ⟨(some 56), (.eqA true [1, 1, 1, 1, 1, 0, 0] (.tmp 51) (.tmp 55)), none⟩]
abbrev A32r15 : List AIns := [⟨(some 10), (.mv (.cst (.int .i64 3))), none⟩]
abbrev A32c16 : ACode := (.seq (.reg A32r12 [0, 1, 2, 3, 4, 12, 13]) (.seq (.reg A32r13 [0, 1, 2, 3, 4, 12, 13]) (.seq (.dreg A32d14 [[], [], [], [1, 2], [1, 2, 3], [0, 1, 2, 3, 4]] [0, 1, 2, 3, 4, 12, 56]) (.cond (.tmp 56) [] (.seq (.reg A32r15 [10]) .ret) [0, 1, 2, 3, 4, 12] .skip))))
abbrev A32r17 : List AIns := [⟨(some 39), (.mv (.tmp 12)), none⟩, ⟨(some 40), (.bin .add (.tmp 39) (.cst (.int .i64 1))), none⟩, ⟨(some 12), (.mv (.tmp 40)), none⟩]
abbrev A32l10 : ACode := (.seq (.seq (.reg A32r11 [0, 1, 2, 3, 4, 12, 38]) (.cond (.tmp 38) [0, 1, 2, 3, 4, 12] .skip [0, 1, 2, 3, 4] (.exit 0))) (.seq (.block 1 A32c16) (.reg A32r17 [0, 1, 2, 3, 4, 12])))
abbrev A32r18 : List AIns := [⟨(some 57), (.mv (.tmp 0)), none⟩, ⟨(some 58), (.mv (.tmp 1)), none⟩, ⟨(some 59), (.call (.fnc 46) [(.tmp 57), (.tmp 58)]), none⟩, ⟨(some 14), (.mv (.tmp 59)), none⟩]
abbrev A32r19 : List AIns := [⟨(some 15), (.mv (.cst (.int .i64 0))), none⟩]
abbrev A32r21 : List AIns := [⟨(some 60), (.mv (.tmp 15)), none⟩, ⟨(some 61), (.mv (.tmp 0)), none⟩, ⟨(some 62), (.len (.tmp 61)), none⟩, ⟨(some 63), (.bin .lss (.tmp 60) (.tmp 62)), none⟩]
abbrev A32d22 : List AIns := [⟨(some 66), (.mv (.tmp 0)), none⟩, ⟨(some 67), (.mv (.tmp 15)), none⟩, ⟨(some 68), (.iaddr 7 (.tmp 66) (.tmp 67)), none⟩, ⟨(some 69), (.load true 7 (.tmp 68)), none⟩, ⟨(some 70), (.mv (.tmp 1)), none⟩, ⟨(some 71), (.mv (.tmp 14)), none⟩, ⟨(some 72), (.mv (.tmp 2)), none⟩, ⟨(some 73), (.mv (.tmp 3)), none⟩, ⟨(some 74), (.mv (.tmp 4)), none⟩, ⟨(some 75), (.mv (.tmp 15)), none⟩, ⟨(some 76), (.iaddr 7 (.tmp 74) (.tmp 75)), none⟩, ⟨(some 77), (.faddr 3 (.tmp 76)), none⟩, ⟨(some 78), (.load false 1 (.tmp 77)), none⟩, ⟨(some 79), (.call (.fnc 53) [(.tmp 69), (.tmp 70), (.tmp 71), (.tmp 72), (.tmp 73), (.tmp 78)]), none⟩, ⟨(some 80), (.un .not (.tmp 79)), none⟩]
abbrev A32r23 : List AIns := [⟨(some 10), (.mv (.cst (.int .i64 19))), none⟩]
abbrev A32c24 : ACode := (.seq (.dreg A32d22 [[], [], [0, 1], [0, 1, 2], [], [], [], [], [], [], [8, 9], [8, 9, 10], [8, 9, 10, 11], [0, 1, 2, 3, 4, 5, 6, 7, 8, 9, 10, 11, 12], [0, 1, 2, 3, 4, 5, 6, 7, 8, 9, 10, 11, 12, 13]] [0, 1, 2, 3, 4, 14, 15, 80]) (.cond (.tmp 80) [] (.seq (.reg A32r23 [10]) .ret) [0, 1, 2, 3, 4, 14, 15] .skip))
abbrev A32r25 : List AIns := [⟨(some 64), (.mv (.tmp 15)), none⟩, ⟨(some 65), (.bin .add (.tmp 64) (.cst (.int .i64 1))), none⟩, ⟨(some 15), (.mv (.tmp 65)), none⟩]
abbrev A32l20 : ACode := (.seq (.seq (.reg A32r21 [0, 1, 2, 3, 4, 14, 15, 63]) (.cond (.tmp 63) [0, 1, 2, 3, 4, 14, 15] .skip [] (.exit 2))) (.seq (.block 3 A32c24) (.reg A32r25 [0, 1, 2, 3, 4, 14, 15])))
abbrev A32r26 : List AIns := [⟨(some 10), (.mv (.cst (.int .i64 0))), none⟩]
def A32 : AFun := ⟨81, 5, [(.tmp 10)], (.seq (.reg A32r1 [0, 1, 2, 3, 4]) (.seq (.seq (.reg A32r2 [0, 1, 2, 3, 4, 11]) (.seq (.reg A32r3 [0, 1, 2, 3, 4, 11, 20]) (.cond (.tmp 20) [11] (.seq (.reg A32r4 [10]) .ret) [0, 1, 2, 3, 4] .skip))) (.seq (.seq (.reg A32r5 [0, 1, 2, 3, 4, 29]) (.cond (.tmp 29) [] (.seq (.reg A32r6 [10]) .ret) [0, 1, 2, 3, 4] .skip)) (.seq (.seq (.reg A32r7 [0, 1, 2, 3, 4, 34]) (.cond (.tmp 34) [] (.seq (.reg A32r8 [10]) .ret) [0, 1, 2, 3, 4] .skip)) (.seq (.seq (.reg A32r9 [0, 1, 2, 3, 4, 12]) (.block 0 (.loop A32l10))) (.seq (.reg A32r18 [0, 1, 2, 3, 4, 14]) (.seq (.seq (.reg A32r19 [0, 1, 2, 3, 4, 14, 15]) (.block 2 (.loop A32l20))) (.seq (.reg A32r26 [10]) .ret))))))))⟩
theorem A32c : compF Try.prog Try.f32 = some A32 := by kernel_rfl
theorem A32k : Callable Try.prog 32 := fun a w => Try.call32 a w
theorem A32p {ds : List D} {r : D} (hl : ds.length ≤ A32.nt) (hw : W Try.prog A32.code (Fin A32.results r) ⟨argEnv 0 ds, fun _ => none⟩) : PCon Try.prog 32 ds r := pcon_of_W mixed Try.func32 A32k A32c hl hw
/- estovers/estoversref19.Check -/
abbrev A33r1 : List AIns := [⟨(some 2), (.mv (.cst (.int .i64 0))), none⟩]
abbrev A33r2 : List AIns := [⟨(some 7), (.mv (.tmp 0)), none⟩, ⟨(some 8), (.len (.tmp 7)), none⟩, ⟨(some 9), (.bin .lss (.tmp 8) (.cst (.int .i64 1))), none⟩, ⟨(some 10), (.mv (.tmp 9)), none⟩, ⟨(some 11), (.mv (.tmp 0)), (some (10, false))⟩, ⟨(some 12), (.len (.tmp 11)), (some (10, false))⟩, ⟨(some 13), (.bin .gtr (.tmp 12) (.cst (.int .i64 8))), (some (10, false))⟩, ⟨(some 14), (.pick (.tmp 10) (.cst (.bool true)) (.tmp 13)), none⟩]
abbrev A33r3 : List AIns := [⟨(some 2), (.mv (.cst (.int .i64 9))), none⟩]
abbrev A33r4 : List AIns := [⟨(some 3), (.mv (.cst (.int .i64 0))), none⟩]
abbrev A33r6 : List AIns := [⟨(some 15), (.mv (.tmp 3)), none⟩, ⟨(some 16), (.mv (.tmp 0)), none⟩, ⟨(some 17), (.len (.tmp 16)), none⟩, ⟨(some 18), (.bin .lss (.tmp 15) (.tmp 17)), none⟩]
abbrev A33r7 : List AIns := [⟨(some 21), (.mv (.tmp 3)), none⟩, ⟨(some 22), (.bin .eql (.tmp 21) (.cst (.int .i64 0))), none⟩, ⟨(some 23), (.mv (.tmp 22)), none⟩, ⟨(some 24), (.mv (.tmp 0)), (some (23, true))⟩, ⟨(some 25), (.mv (.tmp 3)), (some (23, true))⟩, ⟨(some 26), (.iaddr 5 (.tmp 24) (.tmp 25)), (some (23, true))⟩, ⟨(some 27), (.faddr 0 (.tmp 26)), (some (23, true))⟩, ⟨(some 28), (.load false 1 (.tmp 27)), (some (23, true))⟩, ⟨(some 29), (.bin .neq (.tmp 28) (.cst (.int .i64 (-1)))), (some (23, true))⟩, ⟨(some 30), (.pick (.tmp 23) (.tmp 29) (.cst (.bool false))), none⟩, ⟨(some 31), (.mv (.tmp 30)), none⟩, ⟨(some 32), (.mv (.tmp 3)), (some (31, false))⟩, ⟨(some 33), (.bin .gtr (.tmp 32) (.cst (.int .i64 0))), (some (31, false))⟩, ⟨(some 34), (.mv (.tmp 33)), (some (31, false))⟩, ⟨(some 35), (.mv (.tmp 0)), (some (34, true))⟩, ⟨(some 36), (.mv (.tmp 3)), (some (34, true))⟩, ⟨(some 37), (.iaddr 5 (.tmp 35) (.tmp 36)), (some (34, true))⟩, ⟨(some 38), (.faddr 0 (.tmp 37)), (some (34, true))⟩, ⟨(some 39), (.load false 1 (.tmp 38)), (some (34, true))⟩, ⟨(some 40), (.bin .lss (.tmp 39) (.cst (.int .i64 0))), (some (34, true))⟩, ⟨(some 41), (.mv (.tmp 40)), (some (34, true))⟩, ⟨(some 42), (.mv (.tmp 0)), (some (41, false))⟩, ⟨(some 43), (.mv (.tmp 3)), (some (41, false))⟩, ⟨(some 44), (.iaddr 5 (.tmp 42) (.tmp 43)), (some (41, false))⟩, ⟨(some 45), (.faddr 0 (.tmp 44)), (some (41, false))⟩, ⟨(some 46), (.load false 1 (.tmp 45)), (some (41, false))⟩, ⟨(some 47), (.mv (.tmp 3)), (some (41, false))⟩, ⟨(some 48), (.bin .geq (.tmp 46) (.tmp 47)), (some (41, false))⟩, ⟨(some 49), (.pick (.tmp 41) (.cst (.bool true)) (.tmp 48)), (some (34, true))⟩, ⟨(some 50), (.pick (.tmp 34) (.tmp 49) (.cst (.bool false))), (some (31, false))⟩, ⟨(some 51), (.pick (.tmp 31) (.cst (.bool true)) (.tmp 50)), none⟩]
abbrev A33r8 : List AIns := [⟨(some 2), (.mv (.cst (.int .i64 1))), none⟩]
abbrev A33c9 : ACode := (.seq (.reg A33r7 [0, 3, 51]) (.cond (.tmp 51) [] (.seq (.reg A33r8 [2]) .ret) [0, 3] .skip))
abbrev A33r10 : List AIns := [⟨(some 19), (.mv (.tmp 3)), none⟩, ⟨(some 20), (.bin .add (.tmp 19) (.cst (.int .i64 1))), none⟩, ⟨(some 3), (.mv (.tmp 20)), none⟩]
abbrev A33l5 : ACode := (.seq (.seq (.reg A33r6 [0, 3, 18]) (.cond (.tmp 18) [0, 3] .skip [0] (.exit 0))) (.seq (.block 1 A33c9) (.reg A33r10 [0, 3])))
abbrev A33r11 : List AIns := [⟨(some 4), (.mv (.cst (.int .i64 0))), none⟩]
abbrev A33r13 : List AIns := [⟨(some 52), (.mv (.tmp 4)), none⟩, ⟨(some 53), (.mv (.tmp 0)), none⟩, ⟨(some 54), (.len (.tmp 53)), none⟩, ⟨(some 55), (.bin .lss (.tmp 52) (.tmp 54)), none⟩]
abbrev A33r14 : List AIns := [⟨(some 58), (.mv (.tmp 0)), none⟩, ⟨(some 59), (.mv (.tmp 4)), none⟩, ⟨(some 60), (.iaddr 5 (.tmp 58) (.tmp 59)), none⟩, ⟨(some 61), (.faddr 1 (.tmp 60)), none⟩, ⟨(some 62), (.load false 1 (.tmp 61)), none⟩, ⟨(some 63), (.call (.fnc 54) [(.tmp 62)]), none⟩, ⟨(some 64), (.un .not (.tmp 63)), none⟩, ⟨(some 65), (.mv (.tmp 64)), none⟩, ⟨(some 66), (.mv (.tmp 0)), (some (65, false))⟩, ⟨(some 67), (.mv (.tmp 4)), (some (65, false))⟩, ⟨(some 68), (.iaddr 5 (.tmp 66) (.tmp 67)), (some (65, false))⟩, ⟨(some 69), (.faddr 2 (.tmp 68)), (some (65, false))⟩, ⟨(some 70), (.load false 1 (.tmp 69)), (some (65, false))⟩, ⟨(some 71), (.call (.fnc 54) [(.tmp 70)]), (some (65, false))⟩, ⟨(some 72), (.un .not (.tmp 71)), (some (65, false))⟩, ⟨(some 73), (.pick (.tmp 65) (.cst (.bool true)) (.tmp 72)), none⟩, ⟨(some 74), (.mv (.tmp 73)), none⟩, ⟨(some 75), (.mv (.tmp 0)), (some (74, false))⟩, ⟨(some 76), (.mv (.tmp 4)), (some (74, false))⟩, ⟨(some 77), (.iaddr 5 (.tmp 75) (.tmp 76)), (some (74, false))⟩, ⟨(some 78), (.faddr 3 (.tmp 77)), (some (74, false))⟩, ⟨(some 79), (.load false 1 (.tmp 78)), (some (74, false))⟩, ⟨(some 80), (.call (.fnc 54) [(.tmp 79)]), (some (74, false))⟩, ⟨(some 81), (.un .not (.tmp 80)), (some (74, false))⟩, ⟨(some 82), (.pick (.tmp 74) (.cst (.bool true)) (.tmp 81)), none⟩, ⟨(some 83), (.mv (.tmp 82)), none⟩, ⟨(some 84), (.mv (.tmp 0)), (some (83, false))⟩, ⟨(some 85), (.mv (.tmp 4)), (some (83, false))⟩, ⟨(some 86), (.iaddr 5 (.tmp 84) (.tmp 85)), (some (83, false))⟩, ⟨(some 87), (.faddr 4 (.tmp 86)), (some (83, false))⟩, ⟨(some 88), (.load false 1 (.tmp 87)), (some (83, false))⟩, ⟨(some 89), (.call (.fnc 54) [(.tmp 88)]), (some (83, false))⟩, ⟨(some 90), (.un .not (.tmp 89)), (some (83, false))⟩, ⟨(some 91), (.pick (.tmp 83) (.cst (.bool true)) (.tmp 90)), none⟩]
abbrev A33r15 : List AIns := [⟨(some 2), (.mv (.cst (.int .i64 2))), none⟩]
abbrev A33c16 : ACode := (.seq (.reg A33r14 [0, 4, 91]) (.cond (.tmp 91) [] (.seq (.reg A33r15 [2]) .ret) [0, 4] .skip))
abbrev A33r17 : List AIns := [⟨(some 56), (.mv (.tmp 4)), none⟩, ⟨(some 57), (.bin .add (.tmp 56) (.cst (.int .i64 1))), none⟩, ⟨(some 4), (.mv (.tmp 57)), none⟩]
abbrev A33l12 : ACode := (.seq (.seq (.reg A33r13 [0, 4, 55]) (.cond (.tmp 55) [0, 4] .skip [0] (.exit 2))) (.seq (.block 3 A33c16) (.reg A33r17 [0, 4])))
abbrev A33r18 : List AIns := [⟨(some 92), (.mv (.tmp 0)), none⟩, ⟨(some 93), (.iaddr 5 (.tmp 92) (.cst (.int .i64 0))), none⟩, ⟨(some 94), (.faddr 2 (.tmp 93)), none⟩, ⟨(some 95), (.load false 1 (.tmp 94)), none⟩, ⟨(some 96), (.bin .neq (.tmp 95) (.cst (.int .i64 0))), none⟩, ⟨(some 97), (.mv (.tmp 96)), none⟩, ⟨(some 98), (.mv (.tmp 0)), (some (97, false))⟩, ⟨(some 99), (.iaddr 5 (.tmp 98) (.cst (.int .i64 0))), (some (97, false))⟩, ⟨(some 100), (.faddr 3 (.tmp 99)), (some (97, false))⟩, ⟨(some 101), (.load false 1 (.tmp 100)), (some (97, false))⟩, ⟨(some 102), (.bin .neq (.tmp 101) (.cst (.int .i64 0))), (some (97, false))⟩, ⟨(some 103), (.pick (.tmp 97) (.cst (.bool true)) (.tmp 102)), none⟩]
abbrev A33r19 : List AIns := [⟨(some 2), (.mv (.cst (.int .i64 2))), none⟩]
abbrev A33r20 : List AIns := [⟨(some 5), (.mv (.cst (.int .i64 0))), none⟩]
abbrev A33r22 : List AIns := [⟨(some 104), (.mv (.tmp 5)), none⟩, ⟨(some 105), (.mv (.tmp 0)), none⟩, ⟨(some 106), (.len (.tmp 105)), none⟩, ⟨(some 107), (.bin .lss (.tmp 104) (.tmp 106)), none⟩]
abbrev A33d23 : List AIns := [⟨(some 110), (.mv (.tmp 0)), none⟩, ⟨(some 111), (.mv (.tmp 5)), none⟩, ⟨(some 112), (.iaddr 5 (.tmp 110) (.tmp 111)), none⟩, ⟨(some 113), (.faddr 1 (.tmp 112)), none⟩, ⟨(some 114), (.load false 1 (.tmp 113)), none⟩, ⟨(some 115), (.mv (.tmp 0)), none⟩, ⟨(some 116), (.mv (.tmp 5)), none⟩, ⟨(some 117), (.iaddr 5 (.tmp 115) (.tmp 116)), none⟩, ⟨(some 118), (.faddr 4 (.tmp 117)), none⟩, ⟨(some 119), (.load false 1 (.tmp 118)), none⟩, ⟨(some 120), (.bin .gtr (.tmp 114) (.tmp 119)), none⟩]
abbrev A33r24 : List AIns := [⟨(some 2), (.mv (.cst (.int .i64 17))), none⟩]
abbrev A33c25 : ACode := (.seq (.dreg A33d23 [[], [], [0, 1], [0, 1, 2], [0, 1, 2, 3], [], [], [5, 6], [5, 6, 7], [5, 6, 7, 8], [0, 1, 2, 3, 4, 5, 6, 7, 8, 9]] [0, 5, 120]) (.cond (.tmp 120) [] (.seq (.reg A33r24 [2]) .ret) [0, 5] .skip))
abbrev A33r26 : List AIns := [⟨(some 108), (.mv (.tmp 5)), none⟩, ⟨(some 109), (.bin .add (.tmp 108) (.cst (.int .i64 1))), none⟩, ⟨(some 5), (.mv (.tmp 109)), none⟩]
abbrev A33l21 : ACode := (.seq (.seq (.reg A33r22 [0, 5, 107]) (.cond (.tmp 107) [0, 5] .skip [0] (.exit 4))) (.seq (.block 5 A33c25) (.reg A33r26 [0, 5])))
abbrev A33r27 : List AIns := [⟨(some 6), (.mv (.cst (.int .i64 0))), none⟩]
abbrev A33r29 : List AIns := [⟨(some 121), (.mv (.tmp 6)), none⟩, ⟨(some 122), (.mv (.tmp 0)), none⟩, ⟨(some 123), (.len (.tmp 122)), none⟩, ⟨(some 124), (.bin .lss (.tmp 121) (.tmp 123)), none⟩]
abbrev A33d30 : List AIns := [⟨(some 127), (.mv (.tmp 0)), none⟩, ⟨(some 128), (.mv (.tmp 6)), none⟩, ⟨(some 129), (.iaddr 5 (.tmp 127) (.tmp 128)), none⟩, ⟨(some 130), (.faddr 1 (.tmp 129)), none⟩, ⟨(some 131), (.load false 1 (.tmp 130)), none⟩, ⟨(some 132), (.mv (.tmp 0)), none⟩, ⟨(some 133), (.mv (.tmp 6)), none⟩, ⟨(some 134), (.call (.fnc 55) [(.tmp 132), (.tmp 133)]), none⟩, ⟨(some 135), (.bin .lss (.tmp 131) (.tmp 134)), none⟩]
abbrev A33r31 : List AIns := [⟨(some 2), (.mv (.cst (.int .i64 11))), none⟩]
abbrev A33c32 : ACode := (.seq (.dreg A33d30 [[], [], [0, 1], [0, 1, 2], [0, 1, 2, 3], [], [], [5, 6], [0, 1, 2, 3, 4, 5, 6, 7]] [0, 6, 135]) (.cond (.tmp 135) [] (.seq (.reg A33r31 [2]) .ret) [0, 6] .skip))
abbrev A33r33 : List AIns := [⟨(some 125), (.mv (.tmp 6)), none⟩, ⟨(some 126), (.bin .add (.tmp 125) (.cst (.int .i64 1))), none⟩, ⟨(some 6), (.mv (.tmp 126)), none⟩]
abbrev A33l28 : ACode := (.seq (.seq (.reg A33r29 [0, 6, 124]) (.cond (.tmp 124) [0, 6] .skip [] (.exit 6))) (.seq (.block 7 A33c32) (.reg A33r33 [0, 6])))
abbrev A33r34 : List AIns := [⟨(some 2), (.mv (.cst (.int .i64 0))), none⟩]
def A33 : AFun := ⟨136, 1, [(.tmp 2)], (.seq (.reg A33r1 [0]) (.seq (.seq (.reg A33r2 [0, 14]) (.cond (.tmp 14) [] (.seq (.reg A33r3 [2]) .ret) [0] .skip)) (.seq (.seq (.reg A33r4 [0, 3]) (.block 0 (.loop A33l5))) (.seq (.seq (.reg A33r11 [0, 4]) (.block 2 (.loop A33l12))) (.seq (.seq (.reg A33r18 [0, 103]) (.cond (.tmp 103) [] (.seq (.reg A33r19 [2]) .ret) [0] .skip)) (.seq (.seq (.reg A33r20 [0, 5]) (.block 4 (.loop A33l21))) (.seq (.seq (.reg A33r27 [0, 6]) (.block 6 (.loop A33l28))) (.seq (.reg A33r34 [2]) .ret))))))))⟩
theorem A33c : compF Try.prog Try.f33 = some A33 := by kernel_rfl
theorem A33k : Callable Try.prog 33 := fun a w => Try.call33 a w
theorem A33p {ds : List D} {r : D} (hl : ds.length ≤ A33.nt) (hw : W Try.prog A33.code (Fin A33.results r) ⟨argEnv 0 ds, fun _ => none⟩) : PCon Try.prog 33 ds r := pcon_of_W mixed Try.func33 A33k A33c hl hw
/- estovers/estoversref19.Inside -/
abbrev A34r1 : List AIns := [⟨(some 6), (.mv (.cst (.bool false))), none⟩]
abbrev A34r2 : List AIns := [⟨(some 9), (.mv (.tmp 0)), none⟩, ⟨(some 10), (.mv (.tmp 1)), none⟩, ⟨(some 11), (.call (.fnc 56) [(.tmp 9), (.tmp 10)]), none⟩, ⟨(some 12), (.un .not (.tmp 11)), none⟩]
abbrev A34r3 : List AIns := [⟨(some 6), (.mv (.cst (.bool false))), none⟩]
abbrev A34r4 : List AIns := [⟨(some 13), (.mv (.tmp 2)), none⟩, ⟨(some 14), (.bin .eql (.tmp 13) (.cst (.int .i64 (-1)))), none⟩]
abbrev A34r5 : List AIns := [⟨(some 6), (.mv (.cst (.bool true))), none⟩]
abbrev A34r6 : List AIns := [⟨(some 15), (.mv (.tmp 0)), none⟩, ⟨(some 16), (.mv (.tmp 1)), none⟩, ⟨(some 17), (.call (.fnc 57) [(.tmp 15), (.tmp 16)]), none⟩, ⟨(some 7), (.mv (.tmp 17)), none⟩]
abbrev A34r7 : List AIns := [⟨(some 8), (.mv (.cst (.int .i64 0))), none⟩]
abbrev A34r9 : List AIns := [⟨(some 18), (.mv (.tmp 8)), none⟩, ⟨(some 19), (.mv (.tmp 7)), none⟩, ⟨(some 20), (.len (.tmp 19)), none⟩, ⟨(some 21), (.bin .lss (.tmp 18) (.tmp 20)), none⟩]
abbrev A34r10 : List AIns := [⟨(some 24), (.mv (.tmp 7)), none⟩, ⟨(some 25), (.mv (.tmp 8)), none⟩, ⟨(some 26), (.iaddr 1 (.tmp 24) (.tmp 25)), none⟩, ⟨(some 27), (.load false 1 (.tmp 26)), none⟩, ⟨(some 28), (.mv (.tmp 2)), none⟩, ⟨(some 29), (.bin .eql (.tmp 27) (.tmp 28)), none⟩]
abbrev A34r11 : List AIns := [⟨(some 6), (.mv (.cst (.bool true))), none⟩]
abbrev A34c12 : ACode := (.seq (.reg A34r10 [2, 7, 8, 29]) (.cond (.tmp 29) [] (.seq (.reg A34r11 [6]) .ret) [2, 7, 8] .skip))
abbrev A34r13 : List AIns := [⟨(some 22), (.mv (.tmp 8)), none⟩, ⟨(some 23), (.bin .add (.tmp 22) (.cst (.int .i64 1))), none⟩, ⟨(some 8), (.mv (.tmp 23)), none⟩]
abbrev A34l8 : ACode := (.seq (.seq (.reg A34r9 [2, 7, 8, 21]) (.cond (.tmp 21) [2, 7, 8] .skip [] (.exit 0))) (.seq (.block 1 A34c12) (.reg A34r13 [2, 7, 8])))
abbrev A34r14 : List AIns := [⟨(some 6), (.mv (.cst (.bool false))), none⟩]
def A34 : AFun := ⟨30, 3, [(.tmp 6)], (.seq (.reg A34r1 [0, 1, 2]) (.seq (.seq (.reg A34r2 [0, 1, 2, 12]) (.cond (.tmp 12) [] (.seq (.reg A34r3 [6]) .ret) [0, 1, 2] .skip)) (.seq (.seq (.reg A34r4 [0, 1, 2, 14]) (.cond (.tmp 14) [] (.seq (.reg A34r5 [6]) .ret) [0, 1, 2] .skip)) (.seq (.reg A34r6 [2, 7]) (.seq (.seq (.reg A34r7 [2, 7, 8]) (.block 0 (.loop A34l8))) (.seq (.reg A34r14 [6]) .ret))))))⟩
theorem A34c : compF Try.prog Try.f34 = some A34 := by kernel_rfl
theorem A34k : Callable Try.prog 34 := fun a w => Try.call34 a w
theorem A34p {ds : List D} {r : D} (hl : ds.length ≤ A34.nt) (hw : W Try.prog A34.code (Fin A34.results r) ⟨argEnv 0 ds, fun _ => none⟩) : PCon Try.prog 34 ds r := pcon_of_W mixed Try.func34 A34k A34c hl hw
/- estovers/estoverstop.awake20 -/
/- estovers/protection.Effective -/
/- estovers/estoverstop.restOf -/
/- estovers/protection.Overcommit -/
/- estovers/estoverstop.ownPages -/
/- estovers/estoverslaw39.example -/
abbrev A40r1 : List AIns := [⟨(some 0), (.alloc [.nil, .nil, (.int .i64 0), (.bool false)]), none⟩]
abbrev A40r2 : List AIns := [⟨(some 3), (.build [(.int .i64 0), (.int .i64 0), (.int .i64 0), (.int .i64 0), (.int .i64 0)] [(0, (1, (.cst (.int .i64 (-1))))), (1, (1, (.cst (.int .i64 10)))), (4, (1, (.cst (.int .i64 20))))]), none⟩, ⟨(some 4), (.build [(.int .i64 0), (.int .i64 0), (.int .i64 0), (.int .i64 0), (.int .i64 0)] [(0, (1, (.cst (.int .i64 0)))), (1, (1, (.cst (.int .i64 6)))), (2, (1, (.cst (.int .i64 4)))), (4, (1, (.cst (.int .i64 20))))]), none⟩, ⟨(some 5), (.build [(.int .i64 0), (.int .i64 0), (.int .i64 0), (.int .i64 0), (.int .i64 0)] [(0, (1, (.cst (.int .i64 0)))), (1, (1, (.cst (.int .i64 4)))), (2, (1, (.cst (.int .i64 4)))), (4, (1, (.cst (.int .i64 20))))]), none⟩, ⟨(some 6), (.build [(.int .i64 0), (.int .i64 0), (.int .i64 0), (.int .i64 0), (.int .i64 0)] [(0, (1, (.cst (.int .i64 1)))), (1, (1, (.cst (.int .i64 5)))), (2, (1, (.cst (.int .i64 3)))), (4, (1, (.cst (.int .i64 20))))]), none⟩, ⟨(some 7), (.buildS 5 [(.int .i64 0), (.int .i64 0), (.int .i64 0), (.int .i64 0), (.int .i64 0)] 4 [(0, (5, (.tmp 3))), (5, (5, (.tmp 4))), (10, (5, (.tmp 5))), (15, (5, (.tmp 6)))]), none⟩, ⟨(some 1), (.mv (.tmp 7)), none⟩]
abbrev A40r3 : List AIns := [⟨(some 8), (.build [(.int .i64 0), (.int .i64 0), (.int .i64 0), (.int .i64 0), (.int .i64 0), (.bool false), (.bool false)] [(0, (1, (.cst (.int .i64 0)))), (1, (1, (.cst (.int .i64 3)))), (2, (1, (.cst (.int .i64 5)))), (4, (1, (.cst (.int .i64 (-1))))), (5, (1, (.cst (.bool true))))]), none⟩, ⟨(some 9), (.build [(.int .i64 0), (.int .i64 0), (.int .i64 0), (.int .i64 0), (.int .i64 0), (.bool false), (.bool false)] [(0, (1, (.cst (.int .i64 1)))), (1, (1, (.cst (.int .i64 2)))), (4, (1, (.cst (.int .i64 (-1))))), (5, (1, (.cst (.bool true))))]), none⟩, ⟨(some 10), (.build [(.int .i64 0), (.int .i64 0), (.int .i64 0), (.int .i64 0), (.int .i64 0), (.bool false), (.bool false)] [(0, (1, (.cst (.int .i64 2)))), (1, (1, (.cst (.int .i64 1)))), (2, (1, (.cst (.int .i64 7)))), (4, (1, (.cst (.int .i64 (-1)))))]), none⟩, ⟨(some 11), (.build [(.int .i64 0), (.int .i64 0), (.int .i64 0), (.int .i64 0), (.int .i64 0), (.bool false), (.bool false)] [(0, (1, (.cst (.int .i64 3)))), (1, (1, (.cst (.int .i64 (-1))))), (2, (1, (.cst (.int .i64 (-1))))), (3, (1, (.cst (.int .i64 1)))), (4, (1, (.cst (.int .i64 (-1))))), (5, (1, (.cst (.bool true))))]), none⟩, ⟨(some 12), (.buildS 7 [(.int .i64 0), (.int .i64 0), (.int .i64 0), (.int .i64 0), (.int .i64 0), (.bool false), (.bool false)] 4 [(0, (7, (.tmp 8))), (7, (7, (.tmp 9))), (14, (7, (.tmp 10))), (21, (7, (.tmp 11)))]), none⟩, ⟨(some 2), (.mv (.tmp 12)), none⟩]
abbrev A40r4 : List AIns := [⟨(some 13), (.mv (.tmp 2)), none⟩, ⟨(some 14), (.mv (.tmp 1)), none⟩, ⟨(some 15), (.build [.nil, .nil, (.int .i64 0), (.bool false)] [(0, (1, (.tmp 13))), (1, (1, (.tmp 14))), (2, (1, (.cst (.int .i64 (-1))))), (3, (1, (.cst (.bool false))))]), none⟩, ⟨none, (.store 4 (.tmp 0) (.tmp 15)), none⟩]
def A40 : AFun := ⟨16, 0, [(.cell 0 true 4)], (.seq (.reg A40r1 [0]) (.seq (.reg A40r2 [0, 1]) (.seq (.reg A40r3 [0, 1, 2]) (.seq (.reg A40r4 [0]) .ret))))⟩
theorem A40c : compF Try.prog Try.f40 = some A40 := by kernel_rfl
theorem A40k : Callable Try.prog 40 := fun a w => Try.call40 a w
/- estovers/accounts.Check -/
abbrev A41r1 : List AIns := [⟨(some 2), (.mv (.cst (.int .i64 0))), none⟩]
abbrev A41r2 : List AIns := [⟨(some 4), (.mv (.tmp 0)), none⟩, ⟨(some 5), (.len (.tmp 4)), none⟩, ⟨(some 6), (.bin .lss (.tmp 5) (.cst (.int .i64 1))), none⟩, ⟨(some 7), (.mv (.tmp 6)), none⟩, ⟨(some 8), (.mv (.tmp 0)), (some (7, false))⟩, ⟨(some 9), (.len (.tmp 8)), (some (7, false))⟩, ⟨(some 10), (.bin .gtr (.tmp 9) (.cst (.int .i64 8))), (some (7, false))⟩, ⟨(some 11), (.pick (.tmp 7) (.cst (.bool true)) (.tmp 10)), none⟩, ⟨(some 3), (.mv (.tmp 11)), none⟩]
abbrev A41r3 : List AIns := [⟨(some 2), (.mv (.cst (.int .i64 9))), none⟩]
abbrev A41r4 : List AIns := [⟨(some 13), (.mv (.tmp 0)), none⟩, ⟨(some 14), (.call (.fnc 64) [(.tmp 13)]), none⟩, ⟨(some 15), (.un .not (.tmp 14)), none⟩, ⟨(some 12), (.mv (.tmp 15)), none⟩]
abbrev A41r5 : List AIns := [⟨(some 2), (.mv (.cst (.int .i64 1))), none⟩]
abbrev A41r6 : List AIns := [⟨(some 17), (.mv (.tmp 0)), none⟩, ⟨(some 18), (.call (.fnc 65) [(.tmp 17)]), none⟩, ⟨(some 19), (.un .not (.tmp 18)), none⟩, ⟨(some 16), (.mv (.tmp 19)), none⟩]
abbrev A41r7 : List AIns := [⟨(some 2), (.mv (.cst (.int .i64 2))), none⟩]
abbrev A41r8 : List AIns := [⟨(some 21), (.mv (.tmp 0)), none⟩, ⟨(some 22), (.call (.fnc 66) [(.tmp 21), (.fnc 67)]), none⟩, ⟨(some 20), (.mv (.tmp 22)), none⟩]
abbrev A41r9 : List AIns := [⟨(some 2), (.mv (.cst (.int .i64 17))), none⟩]
abbrev A41r10 : List AIns := [⟨(some 24), (.mv (.tmp 0)), none⟩, ⟨(some 25), (.call (.fnc 69) [(.tmp 24)]), none⟩, ⟨(some 26), (.call (.fnc 68) [(.tmp 25)]), none⟩, ⟨(some 27), (.bin .lss (.tmp 26) (.cst (.int .i64 0))), none⟩, ⟨(some 23), (.mv (.tmp 27)), none⟩]
abbrev A41r11 : List AIns := [⟨(some 2), (.mv (.cst (.int .i64 11))), none⟩]
abbrev A41c12 : ACode := (.seq (.reg A41r10 [23]) (.cond (.tmp 23) [] (.seq (.reg A41r11 [2]) .ret) [] .skip))
abbrev A41c13 : ACode := (.seq (.reg A41r8 [0, 20]) (.cond (.tmp 20) [] (.seq (.reg A41r9 [2]) .ret) [0] A41c12))
abbrev A41c14 : ACode := (.seq (.reg A41r6 [0, 16]) (.cond (.tmp 16) [] (.seq (.reg A41r7 [2]) .ret) [0] A41c13))
abbrev A41c15 : ACode := (.seq (.reg A41r4 [0, 12]) (.cond (.tmp 12) [] (.seq (.reg A41r5 [2]) .ret) [0] A41c14))
abbrev A41c16 : ACode := (.seq (.reg A41r2 [0, 3]) (.cond (.tmp 3) [] (.seq (.reg A41r3 [2]) .ret) [0] A41c15))
abbrev A41r17 : List AIns := [⟨(some 2), (.mv (.cst (.int .i64 0))), none⟩]
def A41 : AFun := ⟨28, 1, [(.tmp 2)], (.seq (.reg A41r1 [0]) (.seq (.block 0 A41c16) (.seq (.reg A41r17 [2]) .ret)))⟩
theorem A41c : compF Try.prog Try.f41 = some A41 := by kernel_rfl
theorem A41k : Callable Try.prog 41 := fun a w => Try.call41 a w
theorem A41p {ds : List D} {r : D} (hl : ds.length ≤ A41.nt) (hw : W Try.prog A41.code (Fin A41.results r) ⟨argEnv 0 ds, fun _ => none⟩) : PCon Try.prog 41 ds r := pcon_of_W mixed Try.func41 A41k A41c hl hw
/- estovers/reclaimplan.ask -/
abbrev A42r1 : List AIns := [⟨(some 8), (.mv (.cst .nilp)), none⟩, ⟨(some 9), (.mv (.cst (.int .i64 0))), none⟩]
abbrev A42r2 : List AIns := [⟨(some 16), (.mv (.tmp 0)), none⟩, ⟨(some 17), (.mv (.tmp 1)), none⟩, ⟨(some 18), (.call (.fnc 17) [(.tmp 16), (.tmp 17)]), none⟩, ⟨(some 10), (.mv (.tmp 18)), none⟩]
abbrev A42r3 : List AIns := [⟨(some 19), (.mv (.tmp 10)), none⟩, ⟨(some 20), (.bin .neq (.tmp 19) (.cst (.int .i64 0))), none⟩]
abbrev A42r4 : List AIns := [⟨(some 21), (.mv (.tmp 10)), none⟩, ⟨(some 8), (.mv (.cst .nilp)), none⟩, ⟨(some 9), (.mv (.tmp 21)), none⟩]
abbrev A42r5 : List AIns := [⟨(some 22), (.mv (.tmp 2)), none⟩, ⟨(some 23), (.bin .lss (.tmp 22) (.cst (.int .i64 (-1)))), none⟩, ⟨(some 24), (.mv (.tmp 23)), none⟩, ⟨(some 25), (.mv (.tmp 2)), (some (24, false))⟩, ⟨(some 26), (.mv (.tmp 1)), (some (24, false))⟩, ⟨(some 27), (.len (.tmp 26)), (some (24, false))⟩, ⟨(some 28), (.bin .geq (.tmp 25) (.tmp 27)), (some (24, false))⟩, ⟨(some 29), (.pick (.tmp 24) (.cst (.bool true)) (.tmp 28)), none⟩]
abbrev A42r6 : List AIns := [⟨(some 8), (.mv (.cst .nilp)), none⟩, ⟨(some 9), (.mv (.cst (.int .i64 2))), none⟩]
abbrev A42r7 : List AIns := [⟨(some 30), (.mv (.tmp 1)), none⟩, ⟨(some 31), (.len (.tmp 30)), none⟩, ⟨(some 32), (.mkslice 1 8 [(.int .i64 0)] (.tmp 31) (.tmp 31)), none⟩, ⟨(some 11), (.mv (.tmp 32)), none⟩]
abbrev A42r8 : List AIns := [⟨(some 33), (.mv (.tmp 0)), none⟩, ⟨(some 34), (.len (.tmp 33)), none⟩, ⟨(some 35), (.mv (.cst (.int .i64 0))), none⟩]
abbrev A42r10 : List AIns := [⟨(some 36), (.bin .lss (.tmp 35) (.tmp 34)), none⟩]
abbrev A42r11 : List AIns := [⟨(some 37), (.iaddr 7 (.tmp 33) (.tmp 35)), none⟩, ⟨(some 38), (.load true 7 (.tmp 37)), none⟩, ⟨(some 13), (.alloc [(.int .i64 0), (.int .i64 0), (.int .i64 0), (.int .i64 0), (.int .i64 0), (.bool false), (.bool false)]), none⟩, ⟨none, (.store 7 (.tmp 13) (.tmp 38)), none⟩]
abbrev A42r12 : List AIns := [⟨(some 39), (.faddr 6 (.tmp 13)), none⟩, ⟨(some 40), (.load false 1 (.tmp 39)), none⟩, ⟨(some 41), (.mv (.tmp 40)), none⟩, ⟨(some 42), (.faddr 1 (.tmp 13)), (some (41, true))⟩, ⟨(some 43), (.load false 1 (.tmp 42)), (some (41, true))⟩, ⟨(some 44), (.bin .geq (.tmp 43) (.cst (.int .i64 0))), (some (41, true))⟩, ⟨(some 45), (.pick (.tmp 41) (.tmp 44) (.cst (.bool false))), none⟩]
abbrev A42r13 : List AIns := [⟨(some 46), (.mv (.tmp 11)), none⟩, ⟨(some 47), (.faddr 1 (.tmp 13)), none⟩, ⟨(some 48), (.load false 1 (.tmp 47)), none⟩, ⟨(some 49), (.iaddr 1 (.tmp 46) (.tmp 48)), none⟩, ⟨(some 50), (.load false 1 (.tmp 49)), none⟩, ⟨(some 51), (.bin .add (.tmp 50) (.cst (.int .i64 1))), none⟩, ⟨(some 52), (.iaddr 1 (.tmp 46) (.tmp 48)), none⟩, ⟨none, (.store 1 (.tmp 52) (.tmp 51)), none⟩]
abbrev A42c14 : ACode := (.seq (.reg A42r11 [0, 1, 2, 3, 11, 13, 33, 34, 35]) (.seq (.reg A42r12 [0, 1, 2, 3, 11, 13, 33, 34, 35, 45]) (.cond (.tmp 45) [0, 1, 2, 3, 11, 13, 33, 34, 35] (.reg A42r13 [0, 1, 2, 3, 11, 33, 34, 35]) [0, 1, 2, 3, 11, 33, 34, 35] .skip)))
abbrev A42r15 : List AIns := [⟨(some 53), (.bin .add (.tmp 35) (.cst (.int .i64 1))), none⟩, ⟨(some 35), (.mv (.tmp 53)), none⟩]
abbrev A42l9 : ACode := (.seq (.reg A42r10 [0, 1, 2, 3, 11, 33, 34, 35, 36]) (.seq (.cond (.tmp 36) [0, 1, 2, 3, 11, 33, 34, 35] .skip [0, 1, 2, 3, 11] (.exit 0)) (.seq (.block 1 A42c14) (.reg A42r15 [0, 1, 2, 3, 11, 33, 34, 35]))))
abbrev A42r16 : List AIns := [⟨(some 54), (.mv (.tmp 0)), none⟩, ⟨(some 55), (.mv (.tmp 2)), none⟩, ⟨(some 56), (.mv (.tmp 3)), none⟩, ⟨(some 57), (.build [.nil, (.int .i64 0), (.bool false), .nil, .nil, .nil] [(0, (1, (.tmp 54))), (1, (1, (.tmp 55))), (2, (1, (.tmp 56)))]), none⟩, ⟨(some 58), (.box (.tmp 57)), none⟩, ⟨(some 14), (.mv (.tmp 58)), none⟩]
abbrev A42r17 : List AIns := [⟨(some 59), (.mv (.tmp 1)), none⟩, ⟨(some 60), (.len (.tmp 59)), none⟩, ⟨(some 61), (.mv (.cst (.int .i64 0))), none⟩]
abbrev A42r19 : List AIns := [⟨(some 62), (.bin .lss (.tmp 61) (.tmp 60)), none⟩]
abbrev A42r20 : List AIns := [⟨(some 63), (.mv (.tmp 61)), none⟩, ⟨(some 15), (.mv (.tmp 63)), none⟩]
abbrev A42d21 : List AIns := [⟨(some 64), (.mv (.tmp 14)), none⟩, ⟨(some 65), (.mv (.tmp 14)), none⟩, ⟨(some 66), (.nilck (.tmp 65)), none⟩, ⟨(some 67), (.faddr 3 (.tmp 66)), none⟩, ⟨(some 68), (.load false 1 (.tmp 67)), none⟩, ⟨(some 69), (.mv (.tmp 1)), none⟩, ⟨(some 70), (.mv (.tmp 15)), none⟩, ⟨(some 71), (.mv (.tmp 2)), none⟩, ⟨(some 72), (.call (.fnc 70) [(.tmp 69), (.tmp 70), (.tmp 71)]), none⟩, ⟨(some 73), (.buildS 1 [(.bool false)] 1 [(0, (1, (.tmp 72)))]), none⟩, ⟨(some 74), (.append 1 1 (.tmp 68) (.tmp 73)), none⟩, ⟨(some 75), (.nilck (.tmp 64)), none⟩, ⟨(some 76), (.faddr 3 (.tmp 75)), none⟩, ⟨none, (.store 1 (.tmp 76) (.tmp 74)), none⟩]
abbrev A42d21a : List AIns := [⟨(some 64), (.mv (.tmp 14)), none⟩, ⟨(some 65), (.mv (.tmp 14)), none⟩, ⟨(some 66), (.nilck (.tmp 65)), none⟩, ⟨(some 67), (.faddr 3 (.tmp 66)), none⟩, ⟨(some 68), (.load false 1 (.tmp 67)), none⟩, ⟨(some 69), (.mv (.tmp 1)), none⟩, ⟨(some 70), (.mv (.tmp 15)), none⟩, ⟨(some 71), (.mv (.tmp 2)), none⟩, ⟨(some 72), (.call (.fnc 70) [(.tmp 69), (.tmp 70), (.tmp 71)]), none⟩]
abbrev A42d21b : List AIns := [⟨(some 73), (.buildS 1 [(.bool false)] 1 [(0, (1, (.tmp 72)))]), none⟩, ⟨(some 74), (.append 1 1 (.tmp 68) (.tmp 73)), none⟩, ⟨(some 75), (.nilck (.tmp 64)), none⟩, ⟨(some 76), (.faddr 3 (.tmp 75)), none⟩, ⟨none, (.store 1 (.tmp 76) (.tmp 74)), none⟩]
abbrev A42d22 : List AIns := [⟨(some 77), (.mv (.tmp 14)), none⟩, ⟨(some 78), (.mv (.tmp 14)), none⟩, ⟨(some 79), (.nilck (.tmp 78)), none⟩, ⟨(some 80), (.faddr 4 (.tmp 79)), none⟩, ⟨(some 81), (.load false 1 (.tmp 80)), none⟩, ⟨(some 82), (.mv (.tmp 1)), none⟩, ⟨(some 83), (.mv (.tmp 11)), none⟩, ⟨(some 84), (.mv (.tmp 15)), none⟩, ⟨(some 85), (.mv (.tmp 2)), none⟩, ⟨(some 86), (.call (.fnc 71) [(.tmp 82), (.tmp 83), (.tmp 84), (.tmp 85), (.cst (.bool false))]), none⟩, ⟨(some 87), (.buildS 1 [(.bool false)] 1 [(0, (1, (.tmp 86)))]), none⟩, ⟨(some 88), (.append 1 1 (.tmp 81) (.tmp 87)), none⟩, ⟨(some 89), (.nilck (.tmp 77)), none⟩, ⟨(some 90), (.faddr 4 (.tmp 89)), none⟩, ⟨none, (.store 1 (.tmp 90) (.tmp 88)), none⟩]
abbrev A42d22a : List AIns := [⟨(some 77), (.mv (.tmp 14)), none⟩, ⟨(some 78), (.mv (.tmp 14)), none⟩, ⟨(some 79), (.nilck (.tmp 78)), none⟩, ⟨(some 80), (.faddr 4 (.tmp 79)), none⟩, ⟨(some 81), (.load false 1 (.tmp 80)), none⟩, ⟨(some 82), (.mv (.tmp 1)), none⟩, ⟨(some 83), (.mv (.tmp 11)), none⟩, ⟨(some 84), (.mv (.tmp 15)), none⟩, ⟨(some 85), (.mv (.tmp 2)), none⟩, ⟨(some 86), (.call (.fnc 71) [(.tmp 82), (.tmp 83), (.tmp 84), (.tmp 85), (.cst (.bool false))]), none⟩]
abbrev A42d22b : List AIns := [⟨(some 87), (.buildS 1 [(.bool false)] 1 [(0, (1, (.tmp 86)))]), none⟩, ⟨(some 88), (.append 1 1 (.tmp 81) (.tmp 87)), none⟩, ⟨(some 89), (.nilck (.tmp 77)), none⟩, ⟨(some 90), (.faddr 4 (.tmp 89)), none⟩, ⟨none, (.store 1 (.tmp 90) (.tmp 88)), none⟩]
abbrev A42d23 : List AIns := [⟨(some 91), (.mv (.tmp 14)), none⟩, ⟨(some 92), (.mv (.tmp 14)), none⟩, ⟨(some 93), (.nilck (.tmp 92)), none⟩, ⟨(some 94), (.faddr 5 (.tmp 93)), none⟩, ⟨(some 95), (.load false 1 (.tmp 94)), none⟩, ⟨(some 96), (.mv (.tmp 1)), none⟩, ⟨(some 97), (.mv (.tmp 11)), none⟩, ⟨(some 98), (.mv (.tmp 15)), none⟩, ⟨(some 99), (.mv (.tmp 2)), none⟩, ⟨(some 100), (.call (.fnc 71) [(.tmp 96), (.tmp 97), (.tmp 98), (.tmp 99), (.cst (.bool true))]), none⟩, ⟨(some 101), (.buildS 1 [(.bool false)] 1 [(0, (1, (.tmp 100)))]), none⟩, ⟨(some 102), (.append 1 1 (.tmp 95) (.tmp 101)), none⟩, ⟨(some 103), (.nilck (.tmp 91)), none⟩, ⟨(some 104), (.faddr 5 (.tmp 103)), none⟩, ⟨none, (.store 1 (.tmp 104) (.tmp 102)), none⟩]
abbrev A42d23a : List AIns := [⟨(some 91), (.mv (.tmp 14)), none⟩, ⟨(some 92), (.mv (.tmp 14)), none⟩, ⟨(some 93), (.nilck (.tmp 92)), none⟩, ⟨(some 94), (.faddr 5 (.tmp 93)), none⟩, ⟨(some 95), (.load false 1 (.tmp 94)), none⟩, ⟨(some 96), (.mv (.tmp 1)), none⟩, ⟨(some 97), (.mv (.tmp 11)), none⟩, ⟨(some 98), (.mv (.tmp 15)), none⟩, ⟨(some 99), (.mv (.tmp 2)), none⟩, ⟨(some 100), (.call (.fnc 71) [(.tmp 96), (.tmp 97), (.tmp 98), (.tmp 99), (.cst (.bool true))]), none⟩]
abbrev A42d23b : List AIns := [⟨(some 101), (.buildS 1 [(.bool false)] 1 [(0, (1, (.tmp 100)))]), none⟩, ⟨(some 102), (.append 1 1 (.tmp 95) (.tmp 101)), none⟩, ⟨(some 103), (.nilck (.tmp 91)), none⟩, ⟨(some 104), (.faddr 5 (.tmp 103)), none⟩, ⟨none, (.store 1 (.tmp 104) (.tmp 102)), none⟩]
abbrev A42c24 : ACode := (.seq (.reg A42r20 [1, 2, 11, 14, 15, 60, 61]) (.seq (.dreg A42d21 [[], [], [1], [1, 2], [1, 2, 3], [], [], [], [5, 6, 7], [5, 6, 7, 8], [1, 2, 3, 4, 5, 6, 7, 8, 9], [0, 1, 2, 3, 4, 5, 6, 7, 8, 9, 10], [0, 1, 2, 3, 4, 5, 6, 7, 8, 9, 10, 11], [0, 1, 2, 3, 4, 5, 6, 7, 8, 9, 10, 11, 12]] [1, 2, 11, 14, 15, 60, 61]) (.seq (.dreg A42d22 [[], [], [1], [1, 2], [1, 2, 3], [], [], [], [], [5, 6, 7, 8], [5, 6, 7, 8, 9], [1, 2, 3, 4, 5, 6, 7, 8, 9, 10], [0, 1, 2, 3, 4, 5, 6, 7, 8, 9, 10, 11], [0, 1, 2, 3, 4, 5, 6, 7, 8, 9, 10, 11, 12], [0, 1, 2, 3, 4, 5, 6, 7, 8, 9, 10, 11, 12, 13]] [1, 2, 11, 14, 15, 60, 61]) (.dreg A42d23 [[], [], [1], [1, 2], [1, 2, 3], [], [], [], [], [5, 6, 7, 8], [5, 6, 7, 8, 9], [1, 2, 3, 4, 5, 6, 7, 8, 9, 10], [0, 1, 2, 3, 4, 5, 6, 7, 8, 9, 10, 11], [0, 1, 2, 3, 4, 5, 6, 7, 8, 9, 10, 11, 12], [0, 1, 2, 3, 4, 5, 6, 7, 8, 9, 10, 11, 12, 13]] [1, 2, 11, 14, 60, 61]))))
abbrev A42r25 : List AIns := [⟨(some 105), (.bin .add (.tmp 61) (.cst (.int .i64 1))), none⟩, ⟨(some 61), (.mv (.tmp 105)), none⟩]
abbrev A42l18 : ACode := (.seq (.reg A42r19 [1, 2, 11, 14, 60, 61, 62]) (.seq (.cond (.tmp 62) [1, 2, 11, 14, 60, 61] .skip [14] (.exit 2)) (.seq (.block 3 A42c24) (.reg A42r25 [1, 2, 11, 14, 60, 61]))))
abbrev A42r26 : List AIns := [⟨(some 106), (.mv (.tmp 14)), none⟩, ⟨(some 8), (.mv (.tmp 106)), none⟩, ⟨(some 9), (.mv (.cst (.int .i64 0))), none⟩]
def A42 : AFun := ⟨107, 4, [(.tmp 8), (.tmp 9)], (.seq (.reg A42r1 [0, 1, 2, 3]) (.seq (.seq (.reg A42r2 [0, 1, 2, 3, 10]) (.seq (.reg A42r3 [0, 1, 2, 3, 10, 20]) (.cond (.tmp 20) [10] (.seq (.reg A42r4 [8, 9]) .ret) [0, 1, 2, 3] .skip))) (.seq (.seq (.reg A42r5 [0, 1, 2, 3, 29]) (.cond (.tmp 29) [] (.seq (.reg A42r6 [8, 9]) .ret) [0, 1, 2, 3] .skip)) (.seq (.reg A42r7 [0, 1, 2, 3, 11]) (.seq (.seq (.reg A42r8 [0, 1, 2, 3, 11, 33, 34, 35]) (.block 0 (.loop A42l9))) (.seq (.reg A42r16 [1, 2, 11, 14]) (.seq (.seq (.reg A42r17 [1, 2, 11, 14, 60, 61]) (.block 2 (.loop A42l18))) (.seq (.reg A42r26 [8, 9]) .ret))))))))⟩
theorem A42c : compF Try.prog Try.f42 = some A42 := by kernel_rfl
theorem A42k : Callable Try.prog 42 := fun a w => Try.call42 a w
/- (*estovers/reclaimplan.question).reason -/
abbrev A43r1 : List AIns := [⟨(some 3), (.box (.tmp 1)), none⟩, ⟨(some 4), (.mv (.cst (.int .i64 0))), none⟩]
abbrev A43r2 : List AIns := [⟨(some 6), (.mv (.tmp 0)), none⟩, ⟨(some 7), (.load true 7 (.tmp 3)), none⟩, ⟨(some 8), (.call (.fnc 72) [(.tmp 6), (.tmp 7)]), none⟩, ⟨(some 5), (.mv (.tmp 8)), none⟩]
abbrev A43r3 : List AIns := [⟨(some 4), (.mv (.cst (.int .i64 13))), none⟩]
abbrev A43r4 : List AIns := [⟨(some 10), (.mv (.tmp 0)), none⟩, ⟨(some 11), (.nilck (.tmp 10)), none⟩, ⟨(some 12), (.faddr 2 (.tmp 11)), none⟩, ⟨(some 13), (.load false 1 (.tmp 12)), none⟩, ⟨(some 14), (.mv (.tmp 13)), none⟩, ⟨(some 15), (.faddr 5 (.tmp 3)), (some (14, true))⟩, ⟨(some 16), (.load false 1 (.tmp 15)), (some (14, true))⟩, ⟨(some 17), (.un .not (.tmp 16)), (some (14, true))⟩, ⟨(some 18), (.pick (.tmp 14) (.tmp 17) (.cst (.bool false))), none⟩, ⟨(some 9), (.mv (.tmp 18)), none⟩]
abbrev A43r5 : List AIns := [⟨(some 4), (.mv (.cst (.int .i64 12))), none⟩]
abbrev A43r6 : List AIns := [⟨(some 20), (.faddr 6 (.tmp 3)), none⟩, ⟨(some 21), (.load false 1 (.tmp 20)), none⟩, ⟨(some 19), (.mv (.tmp 21)), none⟩]
abbrev A43r7 : List AIns := [⟨(some 4), (.mv (.cst (.int .i64 8))), none⟩]
abbrev A43r8 : List AIns := [⟨(some 23), (.faddr 3 (.tmp 3)), none⟩, ⟨(some 24), (.load false 1 (.tmp 23)), none⟩, ⟨(some 25), (.bin .neq (.tmp 24) (.cst (.int .i64 0))), none⟩, ⟨(some 26), (.mv (.tmp 25)), none⟩, ⟨(some 27), (.faddr 3 (.tmp 3)), (some (26, true))⟩, ⟨(some 28), (.load false 1 (.tmp 27)), (some (26, true))⟩, ⟨(some 29), (.bin .neq (.tmp 28) (.cst (.int .i64 8))), (some (26, true))⟩, ⟨(some 30), (.pick (.tmp 26) (.tmp 29) (.cst (.bool false))), none⟩, ⟨(some 22), (.mv (.tmp 30)), none⟩]
abbrev A43r9 : List AIns := [⟨(some 31), (.faddr 3 (.tmp 3)), none⟩, ⟨(some 32), (.load false 1 (.tmp 31)), none⟩, ⟨(some 4), (.mv (.tmp 32)), none⟩]
abbrev A43r10 : List AIns := [⟨(some 34), (.mv (.tmp 0)), none⟩, ⟨(some 35), (.load true 7 (.tmp 3)), none⟩, ⟨(some 36), (.call (.fnc 73) [(.tmp 34), (.tmp 35)]), none⟩, ⟨(some 33), (.mv (.tmp 36)), none⟩]
abbrev A43r11 : List AIns := [⟨(some 4), (.mv (.cst (.int .i64 11))), none⟩]
abbrev A43c12 : ACode := (.seq (.reg A43r10 [3, 33]) (.cond (.tmp 33) [] (.seq (.reg A43r11 [4]) .ret) [3] .skip))
abbrev A43c13 : ACode := (.seq (.reg A43r8 [0, 3, 22]) (.cond (.tmp 22) [3] (.seq (.reg A43r9 [4]) .ret) [0, 3] A43c12))
abbrev A43c14 : ACode := (.seq (.reg A43r6 [0, 3, 19]) (.cond (.tmp 19) [] (.seq (.reg A43r7 [4]) .ret) [0, 3] A43c13))
abbrev A43c15 : ACode := (.seq (.reg A43r4 [0, 3, 9]) (.cond (.tmp 9) [] (.seq (.reg A43r5 [4]) .ret) [0, 3] A43c14))
abbrev A43c16 : ACode := (.seq (.reg A43r2 [0, 3, 5]) (.cond (.tmp 5) [] (.seq (.reg A43r3 [4]) .ret) [0, 3] A43c15))
abbrev A43r17 : List AIns := [⟨(some 37), (.faddr 3 (.tmp 3)), none⟩, ⟨(some 38), (.load false 1 (.tmp 37)), none⟩, ⟨(some 4), (.mv (.tmp 38)), none⟩]
def A43 : AFun := ⟨39, 2, [(.tmp 4)], (.seq (.reg A43r1 [0, 3]) (.seq (.block 0 A43c16) (.seq (.reg A43r17 [4]) .ret)))⟩
theorem A43c : compF Try.prog Try.f43 = some A43 := by kernel_rfl
theorem A43k : Callable Try.prog 43 := fun a w => Try.call43 a w
theorem A43p {ds : List D} {r : D} (hl : ds.length ≤ A43.nt) (hw : W Try.prog A43.code (Fin A43.results r) ⟨argEnv 0 ds, fun _ => none⟩) : PCon Try.prog 43 ds r := pcon_of_W mixed Try.func43 A43k A43c hl hw
/- estovers/estoversref39.Question -/
/- estovers/estoversref39.reason -/
/- estovers/estoversref39.Leaving -/
abbrev A46r1 : List AIns := [⟨(some 4), (.mv (.cst .nil)), none⟩]
abbrev A46r2 : List AIns := [⟨(some 7), (.mv (.tmp 1)), none⟩, ⟨(some 8), (.len (.tmp 7)), none⟩, ⟨(some 9), (.mkslice 1 8 [(.int .i64 0)] (.tmp 8) (.tmp 8)), none⟩, ⟨(some 5), (.mv (.tmp 9)), none⟩]
abbrev A46r3 : List AIns := [⟨(some 6), (.mv (.cst (.int .i64 0))), none⟩]
abbrev A46r5 : List AIns := [⟨(some 10), (.mv (.tmp 6)), none⟩, ⟨(some 11), (.mv (.tmp 0)), none⟩, ⟨(some 12), (.len (.tmp 11)), none⟩, ⟨(some 13), (.bin .lss (.tmp 10) (.tmp 12)), none⟩]
abbrev A46r6 : List AIns := [⟨(some 16), (.mv (.tmp 0)), none⟩, ⟨(some 17), (.mv (.tmp 6)), none⟩, ⟨(some 18), (.iaddr 7 (.tmp 16) (.tmp 17)), none⟩, ⟨(some 19), (.faddr 6 (.tmp 18)), none⟩, ⟨(some 20), (.load false 1 (.tmp 19)), none⟩, ⟨(some 21), (.mv (.tmp 20)), none⟩, ⟨(some 22), (.mv (.tmp 0)), (some (21, true))⟩, ⟨(some 23), (.mv (.tmp 6)), (some (21, true))⟩, ⟨(some 24), (.iaddr 7 (.tmp 22) (.tmp 23)), (some (21, true))⟩, ⟨(some 25), (.faddr 1 (.tmp 24)), (some (21, true))⟩, ⟨(some 26), (.load false 1 (.tmp 25)), (some (21, true))⟩, ⟨(some 27), (.bin .geq (.tmp 26) (.cst (.int .i64 0))), (some (21, true))⟩, ⟨(some 28), (.pick (.tmp 21) (.tmp 27) (.cst (.bool false))), none⟩]
abbrev A46r7 : List AIns := [⟨(some 29), (.mv (.tmp 5)), none⟩, ⟨(some 30), (.mv (.tmp 0)), none⟩, ⟨(some 31), (.mv (.tmp 6)), none⟩, ⟨(some 32), (.iaddr 7 (.tmp 30) (.tmp 31)), none⟩, ⟨(some 33), (.faddr 1 (.tmp 32)), none⟩, ⟨(some 34), (.load false 1 (.tmp 33)), none⟩, ⟨(some 35), (.iaddr 1 (.tmp 29) (.tmp 34)), none⟩, ⟨(some 36), (.load false 1 (.tmp 35)), none⟩, ⟨(some 37), (.bin .add (.tmp 36) (.cst (.int .i64 1))), none⟩, ⟨(some 38), (.iaddr 1 (.tmp 29) (.tmp 34)), none⟩, ⟨none, (.store 1 (.tmp 38) (.tmp 37)), none⟩]
abbrev A46c8 : ACode := (.seq (.reg A46r6 [0, 5, 6, 28]) (.cond (.tmp 28) [0, 5, 6] (.reg A46r7 [0, 5, 6]) [0, 5, 6] .skip))
abbrev A46r9 : List AIns := [⟨(some 14), (.mv (.tmp 6)), none⟩, ⟨(some 15), (.bin .add (.tmp 14) (.cst (.int .i64 1))), none⟩, ⟨(some 6), (.mv (.tmp 15)), none⟩]
abbrev A46l4 : ACode := (.seq (.seq (.reg A46r5 [0, 5, 6, 13]) (.cond (.tmp 13) [0, 5, 6] .skip [5] (.exit 0))) (.seq (.block 1 A46c8) (.reg A46r9 [0, 5, 6])))
abbrev A46r10 : List AIns := [⟨(some 39), (.mv (.tmp 5)), none⟩, ⟨(some 4), (.mv (.tmp 39)), none⟩]
def A46 : AFun := ⟨40, 2, [(.tmp 4)], (.seq (.reg A46r1 [0, 1]) (.seq (.reg A46r2 [0, 5]) (.seq (.seq (.reg A46r3 [0, 5, 6]) (.block 0 (.loop A46l4))) (.seq (.reg A46r10 [4]) .ret))))⟩
theorem A46c : compF Try.prog Try.f46 = some A46 := by kernel_rfl
theorem A46k : Callable Try.prog 46 := fun a w => Try.call46 a w
theorem A46p {ds : List D} {r : D} (hl : ds.length ≤ A46.nt) (hw : W Try.prog A46.code (Fin A46.results r) ⟨argEnv 0 ds, fun _ => none⟩) : PCon Try.prog 46 ds r := pcon_of_W mixed Try.func46 A46k A46c hl hw
/- slices.Clone[[]estovers/api.Page,estovers/api.Page] -/
abbrev A47r1 : List AIns := [⟨(some 2), (.mv (.cst .nil)), none⟩]
abbrev A47r2 : List AIns := [⟨(some 3), (.mv (.tmp 0)), none⟩, ⟨(some 4), (.eqN false (.tmp 3)), none⟩]
abbrev A47r3 : List AIns := [⟨(some 2), (.mv (.cst .nil)), none⟩]
abbrev A47r4 : List AIns := [⟨(some 5), (.buildS 7 [(.int .i64 0), (.int .i64 0), (.int .i64 0), (.int .i64 0), (.int .i64 0), (.bool false), (.bool false)] 0 []), none⟩, ⟨(some 6), (.mv (.tmp 0)), none⟩, ⟨(some 7), (.append 7 48 (.tmp 5) (.tmp 6)), none⟩, ⟨(some 2), (.mv (.tmp 7)), none⟩]
def A47 : AFun := ⟨8, 1, [(.tmp 2)], (.seq (.reg A47r1 [0]) (.seq (.seq (.reg A47r2 [0, 4]) (.cond (.tmp 4) [] (.seq (.reg A47r3 [2]) .ret) [0] .skip)) (.seq (.reg A47r4 [2]) .ret)))⟩
theorem A47c : compF Try.prog Try.f47 = some A47 := by kernel_rfl
theorem A47k : Callable Try.prog 47 := fun a w => Try.call47 a w
theorem A47p {ds : List D} {r : D} (hl : ds.length ≤ A47.nt) (hw : W Try.prog A47.code (Fin A47.results r) ⟨argEnv 0 ds, fun _ => none⟩) : PCon Try.prog 47 ds r := pcon_of_W mixed Try.func47 A47k A47c hl hw
/- estovers/estoversref39.guarded -/
abbrev A48r1 : List AIns := [⟨(some 5), (.box (.tmp 0)), none⟩, ⟨(some 10), (.mv (.cst (.bool false))), none⟩]
abbrev A48r2 : List AIns := [⟨(some 11), (.faddr 1 (.tmp 5)), none⟩, ⟨(some 12), (.load false 1 (.tmp 11)), none⟩, ⟨(some 13), (.bin .geq (.tmp 12) (.cst (.int .i64 0))), none⟩, ⟨(some 14), (.mv (.tmp 13)), none⟩, ⟨(some 15), (.mv (.tmp 1)), (some (14, true))⟩, ⟨(some 16), (.mv (.tmp 2)), (some (14, true))⟩, ⟨(some 17), (.faddr 1 (.tmp 5)), (some (14, true))⟩, ⟨(some 18), (.load false 1 (.tmp 17)), (some (14, true))⟩, ⟨(some 19), (.mv (.tmp 3)), (some (14, true))⟩, ⟨(some 20), (.mv (.tmp 4)), (some (14, true))⟩, ⟨(some 21), (.call (.fnc 74) [(.tmp 15), (.tmp 16), (.tmp 18), (.tmp 19), (.tmp 20)]), (some (14, true))⟩, ⟨(some 22), (.pick (.tmp 14) (.tmp 21) (.cst (.bool false))), none⟩, ⟨(some 10), (.mv (.tmp 22)), none⟩]
def A48 : AFun := ⟨23, 5, [(.tmp 10)], (.seq (.reg A48r1 [1, 2, 3, 4, 5]) (.seq (.reg A48r2 [10]) .ret))⟩
theorem A48c : compF Try.prog Try.f48 = some A48 := by kernel_rfl
theorem A48k : Callable Try.prog 48 := fun a w => Try.call48 a w
theorem A48p {ds : List D} {r : D} (hl : ds.length ≤ A48.nt) (hw : W Try.prog A48.code (Fin A48.results r) ⟨argEnv 0 ds, fun _ => none⟩) : PCon Try.prog 48 ds r := pcon_of_W mixed Try.func48 A48k A48c hl hw
/- estovers/estoversref39.outside -/
abbrev A49r1 : List AIns := [⟨(some 3), (.box (.tmp 0)), none⟩, ⟨(some 6), (.mv (.cst (.bool false))), none⟩]
abbrev A49r2 : List AIns := [⟨(some 7), (.mv (.tmp 2)), none⟩, ⟨(some 8), (.bin .geq (.tmp 7) (.cst (.int .i64 0))), none⟩, ⟨(some 9), (.mv (.tmp 8)), none⟩, ⟨(some 10), (.faddr 1 (.tmp 3)), (some (9, true))⟩, ⟨(some 11), (.load false 1 (.tmp 10)), (some (9, true))⟩, ⟨(some 12), (.bin .lss (.tmp 11) (.cst (.int .i64 0))), (some (9, true))⟩, ⟨(some 13), (.mv (.tmp 12)), (some (9, true))⟩, ⟨(some 14), (.mv (.tmp 1)), (some (13, false))⟩, ⟨(some 15), (.faddr 1 (.tmp 3)), (some (13, false))⟩, ⟨(some 16), (.load false 1 (.tmp 15)), (some (13, false))⟩, ⟨(some 17), (.mv (.tmp 2)), (some (13, false))⟩, ⟨(some 18), (.call (.fnc 34) [(.tmp 14), (.tmp 16), (.tmp 17)]), (some (13, false))⟩, ⟨(some 19), (.un .not (.tmp 18)), (some (13, false))⟩, ⟨(some 20), (.pick (.tmp 13) (.cst (.bool true)) (.tmp 19)), (some (9, true))⟩, ⟨(some 21), (.pick (.tmp 9) (.tmp 20) (.cst (.bool false))), none⟩, ⟨(some 6), (.mv (.tmp 21)), none⟩]
def A49 : AFun := ⟨22, 3, [(.tmp 6)], (.seq (.reg A49r1 [1, 2, 3]) (.seq (.reg A49r2 [6]) .ret))⟩
theorem A49c : compF Try.prog Try.f49 = some A49 := by kernel_rfl
theorem A49k : Callable Try.prog 49 := fun a w => Try.call49 a w
theorem A49p {ds : List D} {r : D} (hl : ds.length ≤ A49.nt) (hw : W Try.prog A49.code (Fin A49.results r) ⟨argEnv 0 ds, fun _ => none⟩) : PCon Try.prog 49 ds r := pcon_of_W mixed Try.func49 A49k A49c hl hw
/- slices.ContainsFunc[[]estovers/api.Page,estovers/api.Page] -/
abbrev A50r1 : List AIns := [⟨(some 4), (.mv (.cst (.bool false))), none⟩]
abbrev A50r2 : List AIns := [⟨(some 5), (.mv (.tmp 0)), none⟩, ⟨(some 6), (.mv (.tmp 1)), none⟩, ⟨(some 7), (.call (.fnc 75) [(.tmp 5), (.tmp 6)]), none⟩, ⟨(some 8), (.bin .geq (.tmp 7) (.cst (.int .i64 0))), none⟩, ⟨(some 4), (.mv (.tmp 8)), none⟩]
def A50 : AFun := ⟨9, 2, [(.tmp 4)], (.seq (.reg A50r1 [0, 1]) (.seq (.reg A50r2 [4]) .ret))⟩
theorem A50c : compF Try.prog Try.f50 = some A50 := by kernel_rfl
theorem A50k : Callable Try.prog 50 := fun a w => Try.call50 a w
theorem A50p {ds : List D} {r : D} (hl : ds.length ≤ A50.nt) (hw : W Try.prog A50.code (Fin A50.results r) ⟨argEnv 0 ds, fun _ => none⟩) : PCon Try.prog 50 ds r := pcon_of_W mixed Try.func50 A50k A50c hl hw
/- (*estovers/reclaimplan.question).transit -/
abbrev A51r1 : List AIns := [⟨(some 3), (.box (.tmp 1)), none⟩, ⟨(some 4), (.mv (.cst (.bool false))), none⟩]
abbrev A51r2 : List AIns := [⟨(some 5), (.mv (.tmp 0)), none⟩, ⟨(some 6), (.load true 7 (.tmp 3)), none⟩, ⟨(some 7), (.call (.fnc 43) [(.tmp 5), (.tmp 6)]), none⟩, ⟨(some 8), (.bin .eql (.tmp 7) (.cst (.int .i64 8))), none⟩, ⟨(some 4), (.mv (.tmp 8)), none⟩]
def A51 : AFun := ⟨9, 2, [(.tmp 4)], (.seq (.reg A51r1 [0, 3]) (.seq (.reg A51r2 [4]) .ret))⟩
theorem A51c : compF Try.prog Try.f51 = some A51 := by kernel_rfl
theorem A51k : Callable Try.prog 51 := fun a w => Try.call51 a w
theorem A51p {ds : List D} {r : D} (hl : ds.length ≤ A51.nt) (hw : W Try.prog A51.code (Fin A51.results r) ⟨argEnv 0 ds, fun _ => none⟩) : PCon Try.prog 51 ds r := pcon_of_W mixed Try.func51 A51k A51c hl hw
/- (*estovers/reclaimplan.question).holds -/
abbrev A52r1 : List AIns := [⟨(some 4), (.box (.tmp 1)), none⟩, ⟨(some 6), (.mv (.cst (.bool false))), none⟩]
abbrev A52r2 : List AIns := [⟨(some 7), (.mv (.tmp 2)), none⟩]
abbrev A52r3 : List AIns := [⟨(some 9), (.bin .eql (.tmp 7) (.cst (.int .i64 13))), none⟩, ⟨(some 8), (.mv (.tmp 9)), none⟩]
abbrev A52r4 : List AIns := [⟨(some 10), (.mv (.tmp 0)), none⟩, ⟨(some 11), (.load true 7 (.tmp 4)), none⟩, ⟨(some 12), (.call (.fnc 72) [(.tmp 10), (.tmp 11)]), none⟩, ⟨(some 6), (.mv (.tmp 12)), none⟩]
abbrev A52r5 : List AIns := [⟨(some 14), (.bin .eql (.tmp 7) (.cst (.int .i64 12))), none⟩, ⟨(some 13), (.mv (.tmp 14)), none⟩]
abbrev A52r6 : List AIns := [⟨(some 15), (.mv (.tmp 0)), none⟩, ⟨(some 16), (.nilck (.tmp 15)), none⟩, ⟨(some 17), (.faddr 2 (.tmp 16)), none⟩, ⟨(some 18), (.load false 1 (.tmp 17)), none⟩, ⟨(some 19), (.mv (.tmp 18)), none⟩, ⟨(some 20), (.faddr 5 (.tmp 4)), (some (19, true))⟩, ⟨(some 21), (.load false 1 (.tmp 20)), (some (19, true))⟩, ⟨(some 22), (.un .not (.tmp 21)), (some (19, true))⟩, ⟨(some 23), (.pick (.tmp 19) (.tmp 22) (.cst (.bool false))), none⟩, ⟨(some 6), (.mv (.tmp 23)), none⟩]
abbrev A52r7 : List AIns := [⟨(some 25), (.bin .eql (.tmp 7) (.cst (.int .i64 11))), none⟩, ⟨(some 24), (.mv (.tmp 25)), none⟩]
abbrev A52r8 : List AIns := [⟨(some 26), (.faddr 6 (.tmp 4)), none⟩, ⟨(some 27), (.load false 1 (.tmp 26)), none⟩, ⟨(some 28), (.un .not (.tmp 27)), none⟩, ⟨(some 29), (.mv (.tmp 28)), none⟩, ⟨(some 30), (.mv (.tmp 0)), (some (29, true))⟩, ⟨(some 31), (.load true 7 (.tmp 4)), (some (29, true))⟩, ⟨(some 32), (.call (.fnc 73) [(.tmp 30), (.tmp 31)]), (some (29, true))⟩, ⟨(some 33), (.pick (.tmp 29) (.tmp 32) (.cst (.bool false))), none⟩, ⟨(some 6), (.mv (.tmp 33)), none⟩]
abbrev A52r9 : List AIns := [⟨(some 35), (.bin .eql (.tmp 7) (.cst (.int .i64 0))), none⟩, ⟨(some 34), (.mv (.tmp 35)), none⟩]
abbrev A52r10 : List AIns := [⟨(some 36), (.bin .eql (.tmp 7) (.cst (.int .i64 8))), none⟩, ⟨(some 34), (.mv (.tmp 36)), none⟩]
abbrev A52r11 : List AIns := [⟨(some 6), (.mv (.cst (.bool false))), none⟩]
abbrev A52c12 : ACode := (.seq (.seq (.reg A52r9 [2, 4, 7, 34]) (.cond (.tmp 34) [2, 4, 34] .skip [2, 4, 7] (.reg A52r10 [2, 4, 34]))) (.cond (.tmp 34) [] (.seq (.reg A52r11 [6]) .ret) [2, 4] .skip))
abbrev A52c13 : ACode := (.seq (.reg A52r7 [0, 2, 4, 7, 24]) (.cond (.tmp 24) [0, 4] (.seq (.reg A52r8 [6]) .ret) [2, 4, 7] A52c12))
abbrev A52c14 : ACode := (.seq (.reg A52r5 [0, 2, 4, 7, 13]) (.cond (.tmp 13) [0, 4] (.seq (.reg A52r6 [6]) .ret) [0, 2, 4, 7] A52c13))
abbrev A52c15 : ACode := (.seq (.reg A52r3 [0, 2, 4, 7, 8]) (.cond (.tmp 8) [0, 4] (.seq (.reg A52r4 [6]) .ret) [0, 2, 4, 7] A52c14))
abbrev A52r16 : List AIns := [⟨(some 37), (.faddr 6 (.tmp 4)), none⟩, ⟨(some 38), (.load false 1 (.tmp 37)), none⟩, ⟨(some 39), (.un .not (.tmp 38)), none⟩, ⟨(some 40), (.mv (.tmp 39)), none⟩, ⟨(some 41), (.faddr 3 (.tmp 4)), (some (40, true))⟩, ⟨(some 42), (.load false 1 (.tmp 41)), (some (40, true))⟩, ⟨(some 43), (.mv (.tmp 2)), (some (40, true))⟩, ⟨(some 44), (.bin .eql (.tmp 42) (.tmp 43)), (some (40, true))⟩, ⟨(some 45), (.pick (.tmp 40) (.tmp 44) (.cst (.bool false))), none⟩, ⟨(some 6), (.mv (.tmp 45)), none⟩]
def A52 : AFun := ⟨46, 3, [(.tmp 6)], (.seq (.reg A52r1 [0, 2, 4]) (.seq (.seq (.reg A52r2 [0, 2, 4, 7]) (.block 0 A52c15)) (.seq (.reg A52r16 [6]) .ret)))⟩
theorem A52c : compF Try.prog Try.f52 = some A52 := by kernel_rfl
theorem A52k : Callable Try.prog 52 := fun a w => Try.call52 a w
theorem A52p {ds : List D} {r : D} (hl : ds.length ≤ A52.nt) (hw : W Try.prog A52.code (Fin A52.results r) ⟨argEnv 0 ds, fun _ => none⟩) : PCon Try.prog 52 ds r := pcon_of_W mixed Try.func52 A52k A52c hl hw
/- estovers/estoversref39.holds -/
abbrev A53r1 : List AIns := [⟨(some 6), (.box (.tmp 0)), none⟩, ⟨(some 12), (.mv (.cst (.bool false))), none⟩]
abbrev A53r2 : List AIns := [⟨(some 13), (.mv (.tmp 5)), none⟩, ⟨(some 14), (.bin .eql (.tmp 13) (.cst (.int .i64 13))), none⟩]
abbrev A53r3 : List AIns := [⟨(some 15), (.load true 7 (.tmp 6)), none⟩, ⟨(some 16), (.mv (.tmp 1)), none⟩, ⟨(some 17), (.mv (.tmp 3)), none⟩, ⟨(some 18), (.call (.fnc 49) [(.tmp 15), (.tmp 16), (.tmp 17)]), none⟩, ⟨(some 12), (.mv (.tmp 18)), none⟩]
abbrev A53r4 : List AIns := [⟨(some 19), (.mv (.tmp 5)), none⟩, ⟨(some 20), (.bin .eql (.tmp 19) (.cst (.int .i64 12))), none⟩]
abbrev A53r5 : List AIns := [⟨(some 21), (.mv (.tmp 4)), none⟩, ⟨(some 22), (.mv (.tmp 21)), none⟩, ⟨(some 23), (.faddr 5 (.tmp 6)), (some (22, true))⟩, ⟨(some 24), (.load false 1 (.tmp 23)), (some (22, true))⟩, ⟨(some 25), (.un .not (.tmp 24)), (some (22, true))⟩, ⟨(some 26), (.pick (.tmp 22) (.tmp 25) (.cst (.bool false))), none⟩, ⟨(some 12), (.mv (.tmp 26)), none⟩]
abbrev A53r6 : List AIns := [⟨(some 27), (.faddr 6 (.tmp 6)), none⟩, ⟨(some 28), (.load false 1 (.tmp 27)), none⟩, ⟨(some 29), (.mv (.tmp 28)), none⟩, ⟨(some 30), (.mv (.tmp 5)), (some (29, false))⟩, ⟨(some 31), (.bin .eql (.tmp 30) (.cst (.int .i64 0))), (some (29, false))⟩, ⟨(some 32), (.pick (.tmp 29) (.cst (.bool true)) (.tmp 31)), none⟩, ⟨(some 33), (.mv (.tmp 32)), none⟩, ⟨(some 34), (.mv (.tmp 5)), (some (33, false))⟩, ⟨(some 35), (.bin .eql (.tmp 34) (.cst (.int .i64 8))), (some (33, false))⟩, ⟨(some 36), (.pick (.tmp 33) (.cst (.bool true)) (.tmp 35)), none⟩]
abbrev A53r7 : List AIns := [⟨(some 12), (.mv (.cst (.bool false))), none⟩]
abbrev A53r8 : List AIns := [⟨(some 37), (.mv (.tmp 5)), none⟩, ⟨(some 38), (.bin .eql (.tmp 37) (.cst (.int .i64 11))), none⟩]
abbrev A53r9 : List AIns := [⟨(some 39), (.load true 7 (.tmp 6)), none⟩, ⟨(some 40), (.mv (.tmp 1)), none⟩, ⟨(some 41), (.mv (.tmp 2)), none⟩, ⟨(some 42), (.mv (.tmp 3)), none⟩, ⟨(some 43), (.call (.fnc 48) [(.tmp 39), (.tmp 40), (.tmp 41), (.tmp 42), (.cst (.bool false))]), none⟩, ⟨(some 12), (.mv (.tmp 43)), none⟩]
abbrev A53r10 : List AIns := [⟨(some 44), (.mv (.tmp 5)), none⟩, ⟨(some 45), (.faddr 3 (.tmp 6)), none⟩, ⟨(some 46), (.load false 1 (.tmp 45)), none⟩, ⟨(some 47), (.bin .eql (.tmp 44) (.tmp 46)), none⟩, ⟨(some 12), (.mv (.tmp 47)), none⟩]
def A53 : AFun := ⟨48, 6, [(.tmp 12)], (.seq (.reg A53r1 [1, 2, 3, 4, 5, 6]) (.seq (.seq (.reg A53r2 [1, 2, 3, 4, 5, 6, 14]) (.cond (.tmp 14) [1, 3, 6] (.seq (.reg A53r3 [12]) .ret) [1, 2, 3, 4, 5, 6] .skip)) (.seq (.seq (.reg A53r4 [1, 2, 3, 4, 5, 6, 20]) (.cond (.tmp 20) [4, 6] (.seq (.reg A53r5 [12]) .ret) [1, 2, 3, 5, 6] .skip)) (.seq (.seq (.reg A53r6 [1, 2, 3, 5, 6, 36]) (.cond (.tmp 36) [] (.seq (.reg A53r7 [12]) .ret) [1, 2, 3, 5, 6] .skip)) (.seq (.seq (.reg A53r8 [1, 2, 3, 5, 6, 38]) (.cond (.tmp 38) [1, 2, 3, 6] (.seq (.reg A53r9 [12]) .ret) [5, 6] .skip)) (.seq (.reg A53r10 [12]) .ret))))))⟩
theorem A53c : compF Try.prog Try.f53 = some A53 := by kernel_rfl
theorem A53k : Callable Try.prog 53 := fun a w => Try.call53 a w
theorem A53p {ds : List D} {r : D} (hl : ds.length ≤ A53.nt) (hw : W Try.prog A53.code (Fin A53.results r) ⟨argEnv 0 ds, fun _ => none⟩) : PCon Try.prog 53 ds r := pcon_of_W mixed Try.func53 A53k A53c hl hw
/- estovers/estoversref19.in -/
abbrev A54r1 : List AIns := [⟨(some 2), (.mv (.cst (.bool false))), none⟩]
abbrev A54r2 : List AIns := [⟨(some 3), (.mv (.tmp 0)), none⟩, ⟨(some 4), (.bin .geq (.tmp 3) (.cst (.int .i64 0))), none⟩, ⟨(some 5), (.mv (.tmp 4)), none⟩, ⟨(some 6), (.mv (.tmp 0)), (some (5, true))⟩, ⟨(some 7), (.bin .leq (.tmp 6) (.cst (.int .i64 1048576))), (some (5, true))⟩, ⟨(some 8), (.pick (.tmp 5) (.tmp 7) (.cst (.bool false))), none⟩, ⟨(some 2), (.mv (.tmp 8)), none⟩]
def A54 : AFun := ⟨9, 1, [(.tmp 2)], (.seq (.reg A54r1 [0]) (.seq (.reg A54r2 [2]) .ret))⟩
theorem A54c : compF Try.prog Try.f54 = some A54 := by kernel_rfl
theorem A54k : Callable Try.prog 54 := fun a w => Try.call54 a w
theorem A54p {ds : List D} {r : D} (hl : ds.length ≤ A54.nt) (hw : W Try.prog A54.code (Fin A54.results r) ⟨argEnv 0 ds, fun _ => none⟩) : PCon Try.prog 54 ds r := pcon_of_W mixed Try.func54 A54k A54c hl hw
/- estovers/estoversref19.kids -/
abbrev A55r1 : List AIns := [⟨(some 4), (.mv (.cst (.int .i64 0))), none⟩]
abbrev A55r2 : List AIns := [⟨(some 5), (.mv (.cst (.int .i64 0))), none⟩]
abbrev A55r3 : List AIns := [⟨(some 6), (.mv (.cst (.int .i64 1))), none⟩]
abbrev A55r5 : List AIns := [⟨(some 7), (.mv (.tmp 6)), none⟩, ⟨(some 8), (.mv (.tmp 0)), none⟩, ⟨(some 9), (.len (.tmp 8)), none⟩, ⟨(some 10), (.bin .lss (.tmp 7) (.tmp 9)), none⟩]
abbrev A55r6 : List AIns := [⟨(some 13), (.mv (.tmp 0)), none⟩, ⟨(some 14), (.mv (.tmp 6)), none⟩, ⟨(some 15), (.iaddr 5 (.tmp 13) (.tmp 14)), none⟩, ⟨(some 16), (.faddr 0 (.tmp 15)), none⟩, ⟨(some 17), (.load false 1 (.tmp 16)), none⟩, ⟨(some 18), (.mv (.tmp 1)), none⟩, ⟨(some 19), (.bin .eql (.tmp 17) (.tmp 18)), none⟩]
abbrev A55r7 : List AIns := [⟨(some 20), (.mv (.tmp 5)), none⟩, ⟨(some 21), (.mv (.tmp 0)), none⟩, ⟨(some 22), (.mv (.tmp 6)), none⟩, ⟨(some 23), (.iaddr 5 (.tmp 21) (.tmp 22)), none⟩, ⟨(some 24), (.faddr 1 (.tmp 23)), none⟩, ⟨(some 25), (.load false 1 (.tmp 24)), none⟩, ⟨(some 26), (.bin .add (.tmp 20) (.tmp 25)), none⟩, ⟨(some 5), (.mv (.tmp 26)), none⟩]
abbrev A55c8 : ACode := (.seq (.reg A55r6 [0, 1, 5, 6, 19]) (.cond (.tmp 19) [0, 1, 5, 6] (.reg A55r7 [0, 1, 5, 6]) [0, 1, 5, 6] .skip))
abbrev A55r9 : List AIns := [⟨(some 11), (.mv (.tmp 6)), none⟩, ⟨(some 12), (.bin .add (.tmp 11) (.cst (.int .i64 1))), none⟩, ⟨(some 6), (.mv (.tmp 12)), none⟩]
abbrev A55l4 : ACode := (.seq (.seq (.reg A55r5 [0, 1, 5, 6, 10]) (.cond (.tmp 10) [0, 1, 5, 6] .skip [5] (.exit 0))) (.seq (.block 1 A55c8) (.reg A55r9 [0, 1, 5, 6])))
abbrev A55r10 : List AIns := [⟨(some 27), (.mv (.tmp 5)), none⟩, ⟨(some 4), (.mv (.tmp 27)), none⟩]
def A55 : AFun := ⟨28, 2, [(.tmp 4)], (.seq (.reg A55r1 [0, 1]) (.seq (.reg A55r2 [0, 1, 5]) (.seq (.seq (.reg A55r3 [0, 1, 5, 6]) (.block 0 (.loop A55l4))) (.seq (.reg A55r10 [4]) .ret))))⟩
theorem A55c : compF Try.prog Try.f55 = some A55 := by kernel_rfl
theorem A55k : Callable Try.prog 55 := fun a w => Try.call55 a w
theorem A55p {ds : List D} {r : D} (hl : ds.length ≤ A55.nt) (hw : W Try.prog A55.code (Fin A55.results r) ⟨argEnv 0 ds, fun _ => none⟩) : PCon Try.prog 55 ds r := pcon_of_W mixed Try.func55 A55k A55c hl hw
/- estovers/estoversref19.has -/
abbrev A56r1 : List AIns := [⟨(some 4), (.mv (.cst (.bool false))), none⟩]
abbrev A56r2 : List AIns := [⟨(some 5), (.mv (.tmp 0)), none⟩, ⟨(some 6), (.call (.fnc 33) [(.tmp 5)]), none⟩, ⟨(some 7), (.bin .eql (.tmp 6) (.cst (.int .i64 0))), none⟩, ⟨(some 8), (.mv (.tmp 7)), none⟩, ⟨(some 9), (.mv (.tmp 1)), (some (8, true))⟩, ⟨(some 10), (.bin .geq (.tmp 9) (.cst (.int .i64 0))), (some (8, true))⟩, ⟨(some 11), (.pick (.tmp 8) (.tmp 10) (.cst (.bool false))), none⟩, ⟨(some 12), (.mv (.tmp 11)), none⟩, ⟨(some 13), (.mv (.tmp 1)), (some (12, true))⟩, ⟨(some 14), (.mv (.tmp 0)), (some (12, true))⟩, ⟨(some 15), (.len (.tmp 14)), (some (12, true))⟩, ⟨(some 16), (.bin .lss (.tmp 13) (.tmp 15)), (some (12, true))⟩, ⟨(some 17), (.pick (.tmp 12) (.tmp 16) (.cst (.bool false))), none⟩, ⟨(some 4), (.mv (.tmp 17)), none⟩]
def A56 : AFun := ⟨18, 2, [(.tmp 4)], (.seq (.reg A56r1 [0, 1]) (.seq (.reg A56r2 [4]) .ret))⟩
theorem A56c : compF Try.prog Try.f56 = some A56 := by kernel_rfl
theorem A56k : Callable Try.prog 56 := fun a w => Try.call56 a w
theorem A56p {ds : List D} {r : D} (hl : ds.length ≤ A56.nt) (hw : W Try.prog A56.code (Fin A56.results r) ⟨argEnv 0 ds, fun _ => none⟩) : PCon Try.prog 56 ds r := pcon_of_W mixed Try.func56 A56k A56c hl hw
/- estovers/estoversref19.Path -/
abbrev A57r1 : List AIns := [⟨(some 4), (.mv (.cst .nil)), none⟩]
abbrev A57r2 : List AIns := [⟨(some 6), (.mv (.tmp 0)), none⟩, ⟨(some 7), (.mv (.tmp 1)), none⟩, ⟨(some 8), (.call (.fnc 56) [(.tmp 6), (.tmp 7)]), none⟩, ⟨(some 9), (.un .not (.tmp 8)), none⟩]
abbrev A57r3 : List AIns := [⟨(some 4), (.mv (.cst .nil)), none⟩]
abbrev A57r4 : List AIns := [⟨(some 5), (.mv (.cst .nil)), none⟩]
abbrev A57r6 : List AIns := [⟨(some 10), (.mv (.tmp 1)), none⟩, ⟨(some 11), (.bin .geq (.tmp 10) (.cst (.int .i64 0))), none⟩]
abbrev A57r7 : List AIns := [⟨(some 12), (.mv (.tmp 5)), none⟩, ⟨(some 13), (.mv (.tmp 1)), none⟩, ⟨(some 14), (.buildS 1 [(.int .i64 0)] 1 [(0, (1, (.tmp 13)))]), none⟩, ⟨(some 15), (.append 1 8 (.tmp 12) (.tmp 14)), none⟩, ⟨(some 5), (.mv (.tmp 15)), none⟩]
abbrev A57r8 : List AIns := [⟨(some 16), (.mv (.tmp 0)), none⟩, ⟨(some 17), (.mv (.tmp 1)), none⟩, ⟨(some 18), (.iaddr 5 (.tmp 16) (.tmp 17)), none⟩, ⟨(some 19), (.faddr 0 (.tmp 18)), none⟩, ⟨(some 20), (.load false 1 (.tmp 19)), none⟩, ⟨(some 1), (.mv (.tmp 20)), none⟩]
abbrev A57l5 : ACode := (.seq (.seq (.reg A57r6 [0, 1, 5, 11]) (.cond (.tmp 11) [0, 1, 5] .skip [5] (.exit 0))) (.block 1 (.seq (.reg A57r7 [0, 1, 5]) (.reg A57r8 [0, 1, 5]))))
abbrev A57r9 : List AIns := [⟨(some 21), (.mv (.tmp 5)), none⟩, ⟨(some 4), (.mv (.tmp 21)), none⟩]
def A57 : AFun := ⟨22, 2, [(.tmp 4)], (.seq (.reg A57r1 [0, 1]) (.seq (.seq (.reg A57r2 [0, 1, 9]) (.cond (.tmp 9) [] (.seq (.reg A57r3 [4]) .ret) [0, 1] .skip)) (.seq (.reg A57r4 [0, 1, 5]) (.seq (.block 0 (.loop A57l5)) (.seq (.reg A57r9 [4]) .ret)))))⟩
theorem A57c : compF Try.prog Try.f57 = some A57 := by kernel_rfl
theorem A57k : Callable Try.prog 57 := fun a w => Try.call57 a w
theorem A57p {ds : List D} {r : D} (hl : ds.length ≤ A57.nt) (hw : W Try.prog A57.code (Fin A57.results r) ⟨argEnv 0 ds, fun _ => none⟩) : PCon Try.prog 57 ds r := pcon_of_W mixed Try.func57 A57k A57c hl hw
/- estovers/generations.Add -/
/- estovers/generations.New -/
/- estovers/generations.Where -/
/- estovers/protection.Open -/
/- estovers/protection.Effective$1 -/
/- estovers/estoversref19.Own -/
/- estovers/accounts.tree -/
abbrev A64r1 : List AIns := [⟨(some 2), (.mv (.cst (.bool false))), none⟩]
abbrev A64r2 : List AIns := [⟨(some 5), (.mv (.tmp 0)), none⟩, ⟨(some 6), (.len (.tmp 5)), none⟩, ⟨(some 7), (.mv (.cst (.int .i64 0))), none⟩]
abbrev A64r4 : List AIns := [⟨(some 8), (.bin .lss (.tmp 7) (.tmp 6)), none⟩]
abbrev A64r5 : List AIns := [⟨(some 9), (.mv (.tmp 7)), none⟩, ⟨(some 10), (.iaddr 5 (.tmp 5) (.tmp 7)), none⟩, ⟨(some 11), (.load true 5 (.tmp 10)), none⟩, ⟨(some 4), (.alloc [(.int .i64 0), (.int .i64 0), (.int .i64 0), (.int .i64 0), (.int .i64 0)]), none⟩, ⟨(some 3), (.mv (.tmp 9)), none⟩, ⟨none, (.store 5 (.tmp 4) (.tmp 11)), none⟩]
abbrev A64r6 : List AIns := [⟨(some 12), (.mv (.tmp 3)), none⟩, ⟨(some 13), (.bin .eql (.tmp 12) (.cst (.int .i64 0))), none⟩, ⟨(some 14), (.mv (.tmp 13)), none⟩, ⟨(some 15), (.faddr 0 (.tmp 4)), (some (14, true))⟩, ⟨(some 16), (.load false 1 (.tmp 15)), (some (14, true))⟩, ⟨(some 17), (.bin .neq (.tmp 16) (.cst (.int .i64 (-1)))), (some (14, true))⟩, ⟨(some 18), (.pick (.tmp 14) (.tmp 17) (.cst (.bool false))), none⟩, ⟨(some 19), (.mv (.tmp 18)), none⟩, ⟨(some 20), (.mv (.tmp 3)), (some (19, false))⟩, ⟨(some 21), (.bin .gtr (.tmp 20) (.cst (.int .i64 0))), (some (19, false))⟩, ⟨(some 22), (.mv (.tmp 21)), (some (19, false))⟩, ⟨(some 23), (.faddr 0 (.tmp 4)), (some (22, true))⟩, ⟨(some 24), (.load false 1 (.tmp 23)), (some (22, true))⟩, ⟨(some 25), (.bin .lss (.tmp 24) (.cst (.int .i64 0))), (some (22, true))⟩, ⟨(some 26), (.mv (.tmp 25)), (some (22, true))⟩, ⟨(some 27), (.faddr 0 (.tmp 4)), (some (26, false))⟩, ⟨(some 28), (.load false 1 (.tmp 27)), (some (26, false))⟩, ⟨(some 29), (.mv (.tmp 3)), (some (26, false))⟩, ⟨(some 30), (.bin .geq (.tmp 28) (.tmp 29)), (some (26, false))⟩, ⟨(some 31), (.pick (.tmp 26) (.cst (.bool true)) (.tmp 30)), (some (22, true))⟩, ⟨(some 32), (.pick (.tmp 22) (.tmp 31) (.cst (.bool false))), (some (19, false))⟩, ⟨(some 33), (.pick (.tmp 19) (.cst (.bool true)) (.tmp 32)), none⟩]
abbrev A64r7 : List AIns := [⟨(some 2), (.mv (.cst (.bool false))), none⟩]
abbrev A64c8 : ACode := (.seq (.reg A64r5 [3, 4, 5, 6, 7]) (.seq (.reg A64r6 [5, 6, 7, 33]) (.cond (.tmp 33) [] (.seq (.reg A64r7 [2]) .ret) [5, 6, 7] .skip)))
abbrev A64r9 : List AIns := [⟨(some 34), (.bin .add (.tmp 7) (.cst (.int .i64 1))), none⟩, ⟨(some 7), (.mv (.tmp 34)), none⟩]
abbrev A64l3 : ACode := (.seq (.reg A64r4 [5, 6, 7, 8]) (.seq (.cond (.tmp 8) [5, 6, 7] .skip [] (.exit 0)) (.seq (.block 1 A64c8) (.reg A64r9 [5, 6, 7]))))
abbrev A64r10 : List AIns := [⟨(some 2), (.mv (.cst (.bool true))), none⟩]
def A64 : AFun := ⟨35, 1, [(.tmp 2)], (.seq (.reg A64r1 [0]) (.seq (.seq (.reg A64r2 [5, 6, 7]) (.block 0 (.loop A64l3))) (.seq (.reg A64r10 [2]) .ret)))⟩
theorem A64c : compF Try.prog Try.f64 = some A64 := by kernel_rfl
theorem A64k : Callable Try.prog 64 := fun a w => Try.call64 a w
theorem A64p {ds : List D} {r : D} (hl : ds.length ≤ A64.nt) (hw : W Try.prog A64.code (Fin A64.results r) ⟨argEnv 0 ds, fun _ => none⟩) : PCon Try.prog 64 ds r := pcon_of_W mixed Try.func64 A64k A64c hl hw
/- estovers/accounts.amounts -/
abbrev A65r1 : List AIns := [⟨(some 2), (.mv (.cst (.bool false))), none⟩]
abbrev A65r2 : List AIns := [⟨(some 5), (.mv (.tmp 0)), none⟩, ⟨(some 6), (.len (.tmp 5)), none⟩, ⟨(some 7), (.mv (.cst (.int .i64 0))), none⟩]
abbrev A65r4 : List AIns := [⟨(some 8), (.bin .lss (.tmp 7) (.tmp 6)), none⟩]
abbrev A65r5 : List AIns := [⟨(some 9), (.iaddr 5 (.tmp 5) (.tmp 7)), none⟩, ⟨(some 10), (.load true 5 (.tmp 9)), none⟩, ⟨(some 4), (.alloc [(.int .i64 0), (.int .i64 0), (.int .i64 0), (.int .i64 0), (.int .i64 0)]), none⟩, ⟨none, (.store 5 (.tmp 4) (.tmp 10)), none⟩]
abbrev A65r6 : List AIns := [⟨(some 11), (.faddr 1 (.tmp 4)), none⟩, ⟨(some 12), (.load false 1 (.tmp 11)), none⟩, ⟨(some 13), (.call (.fnc 82) [(.tmp 12)]), none⟩, ⟨(some 14), (.un .not (.tmp 13)), none⟩, ⟨(some 15), (.mv (.tmp 14)), none⟩, ⟨(some 16), (.faddr 2 (.tmp 4)), (some (15, false))⟩, ⟨(some 17), (.load false 1 (.tmp 16)), (some (15, false))⟩, ⟨(some 18), (.call (.fnc 82) [(.tmp 17)]), (some (15, false))⟩, ⟨(some 19), (.un .not (.tmp 18)), (some (15, false))⟩, ⟨(some 20), (.pick (.tmp 15) (.cst (.bool true)) (.tmp 19)), none⟩, ⟨(some 21), (.mv (.tmp 20)), none⟩, ⟨(some 22), (.faddr 3 (.tmp 4)), (some (21, false))⟩, ⟨(some 23), (.load false 1 (.tmp 22)), (some (21, false))⟩, ⟨(some 24), (.call (.fnc 82) [(.tmp 23)]), (some (21, false))⟩, ⟨(some 25), (.un .not (.tmp 24)), (some (21, false))⟩, ⟨(some 26), (.pick (.tmp 21) (.cst (.bool true)) (.tmp 25)), none⟩, ⟨(some 27), (.mv (.tmp 26)), none⟩, ⟨(some 28), (.faddr 4 (.tmp 4)), (some (27, false))⟩, ⟨(some 29), (.load false 1 (.tmp 28)), (some (27, false))⟩, ⟨(some 30), (.call (.fnc 82) [(.tmp 29)]), (some (27, false))⟩, ⟨(some 31), (.un .not (.tmp 30)), (some (27, false))⟩, ⟨(some 32), (.pick (.tmp 27) (.cst (.bool true)) (.tmp 31)), none⟩]
abbrev A65r7 : List AIns := [⟨(some 2), (.mv (.cst (.bool false))), none⟩]
abbrev A65c8 : ACode := (.seq (.reg A65r5 [0, 4, 5, 6, 7]) (.seq (.reg A65r6 [0, 5, 6, 7, 32]) (.cond (.tmp 32) [] (.seq (.reg A65r7 [2]) .ret) [0, 5, 6, 7] .skip)))
abbrev A65r9 : List AIns := [⟨(some 33), (.bin .add (.tmp 7) (.cst (.int .i64 1))), none⟩, ⟨(some 7), (.mv (.tmp 33)), none⟩]
abbrev A65l3 : ACode := (.seq (.reg A65r4 [0, 5, 6, 7, 8]) (.seq (.cond (.tmp 8) [0, 5, 6, 7] .skip [0] (.exit 0)) (.seq (.block 1 A65c8) (.reg A65r9 [0, 5, 6, 7]))))
abbrev A65r10 : List AIns := [⟨(some 34), (.mv (.tmp 0)), none⟩, ⟨(some 35), (.iaddr 5 (.tmp 34) (.cst (.int .i64 0))), none⟩, ⟨(some 36), (.faddr 2 (.tmp 35)), none⟩, ⟨(some 37), (.load false 1 (.tmp 36)), none⟩, ⟨(some 38), (.bin .eql (.tmp 37) (.cst (.int .i64 0))), none⟩, ⟨(some 39), (.mv (.tmp 38)), none⟩, ⟨(some 40), (.mv (.tmp 0)), (some (39, true))⟩, ⟨(some 41), (.iaddr 5 (.tmp 40) (.cst (.int .i64 0))), (some (39, true))⟩, ⟨(some 42), (.faddr 3 (.tmp 41)), (some (39, true))⟩, ⟨(some 43), (.load false 1 (.tmp 42)), (some (39, true))⟩, ⟨(some 44), (.bin .eql (.tmp 43) (.cst (.int .i64 0))), (some (39, true))⟩, ⟨(some 45), (.pick (.tmp 39) (.tmp 44) (.cst (.bool false))), none⟩, ⟨(some 2), (.mv (.tmp 45)), none⟩]
def A65 : AFun := ⟨46, 1, [(.tmp 2)], (.seq (.reg A65r1 [0]) (.seq (.seq (.reg A65r2 [0, 5, 6, 7]) (.block 0 (.loop A65l3))) (.seq (.reg A65r10 [2]) .ret)))⟩
theorem A65c : compF Try.prog Try.f65 = some A65 := by kernel_rfl
theorem A65k : Callable Try.prog 65 := fun a w => Try.call65 a w
theorem A65p {ds : List D} {r : D} (hl : ds.length ≤ A65.nt) (hw : W Try.prog A65.code (Fin A65.results r) ⟨argEnv 0 ds, fun _ => none⟩) : PCon Try.prog 65 ds r := pcon_of_W mixed Try.func65 A65k A65c hl hw
/- slices.ContainsFunc[[]estovers/api.Account,estovers/api.Account] -/
abbrev A66r1 : List AIns := [⟨(some 4), (.mv (.cst (.bool false))), none⟩]
abbrev A66r2 : List AIns := [⟨(some 5), (.mv (.tmp 0)), none⟩, ⟨(some 6), (.mv (.tmp 1)), none⟩, ⟨(some 7), (.call (.fnc 83) [(.tmp 5), (.tmp 6)]), none⟩, ⟨(some 8), (.bin .geq (.tmp 7) (.cst (.int .i64 0))), none⟩, ⟨(some 4), (.mv (.tmp 8)), none⟩]
def A66 : AFun := ⟨9, 2, [(.tmp 4)], (.seq (.reg A66r1 [0, 1]) (.seq (.reg A66r2 [4]) .ret))⟩
theorem A66c : compF Try.prog Try.f66 = some A66 := by kernel_rfl
theorem A66k : Callable Try.prog 66 := fun a w => Try.call66 a w
theorem A66p {ds : List D} {r : D} (hl : ds.length ≤ A66.nt) (hw : W Try.prog A66.code (Fin A66.results r) ⟨argEnv 0 ds, fun _ => none⟩) : PCon Try.prog 66 ds r := pcon_of_W mixed Try.func66 A66k A66c hl hw
/- estovers/accounts.Check$1 -/
abbrev A67r1 : List AIns := [⟨(some 1), (.box (.tmp 0)), none⟩, ⟨(some 2), (.mv (.cst (.bool false))), none⟩]
abbrev A67r2 : List AIns := [⟨(some 3), (.faddr 1 (.tmp 1)), none⟩, ⟨(some 4), (.load false 1 (.tmp 3)), none⟩, ⟨(some 5), (.faddr 4 (.tmp 1)), none⟩, ⟨(some 6), (.load false 1 (.tmp 5)), none⟩, ⟨(some 7), (.bin .gtr (.tmp 4) (.tmp 6)), none⟩, ⟨(some 2), (.mv (.tmp 7)), none⟩]
def A67 : AFun := ⟨8, 1, [(.tmp 2)], (.seq (.reg A67r1 [1]) (.seq (.reg A67r2 [2]) .ret))⟩
theorem A67c : compF Try.prog Try.f67 = some A67 := by kernel_rfl
theorem A67k : Callable Try.prog 67 := fun a w => Try.call67 a w
theorem A67p {ds : List D} {r : D} (hl : ds.length ≤ A67.nt) (hw : W Try.prog A67.code (Fin A67.results r) ⟨argEnv 0 ds, fun _ => none⟩) : PCon Try.prog 67 ds r := pcon_of_W mixed Try.func67 A67k A67c hl hw
/- slices.Min[[]int,int] -/
abbrev A68r1 : List AIns := [⟨(some 2), (.mv (.cst (.int .i64 0))), none⟩]
abbrev A68r2 : List AIns := [⟨(some 5), (.mv (.tmp 0)), none⟩, ⟨(some 6), (.len (.tmp 5)), none⟩, ⟨(some 7), (.bin .lss (.tmp 6) (.cst (.int .i64 1))), none⟩]
abbrev A68r3 : List AIns := [⟨(some 8), .bad, none⟩, ⟨none, .bad, none⟩]
abbrev A68r4 : List AIns := [⟨(some 9), (.mv (.tmp 0)), none⟩, ⟨(some 10), (.iaddr 1 (.tmp 9) (.cst (.int .i64 0))), none⟩, ⟨(some 11), (.load false 1 (.tmp 10)), none⟩, ⟨(some 3), (.mv (.tmp 11)), none⟩]
abbrev A68r5 : List AIns := [⟨(some 4), (.mv (.cst (.int .i64 1))), none⟩]
abbrev A68r7 : List AIns := [⟨(some 12), (.mv (.tmp 4)), none⟩, ⟨(some 13), (.mv (.tmp 0)), none⟩, ⟨(some 14), (.len (.tmp 13)), none⟩, ⟨(some 15), (.bin .lss (.tmp 12) (.tmp 14)), none⟩]
abbrev A68r8 : List AIns := [⟨(some 18), (.mv (.tmp 3)), none⟩, ⟨(some 19), (.mv (.tmp 0)), none⟩, ⟨(some 20), (.mv (.tmp 4)), none⟩, ⟨(some 21), (.iaddr 1 (.tmp 19) (.tmp 20)), none⟩, ⟨(some 22), (.load false 1 (.tmp 21)), none⟩, ⟨(some 23), (.mima false [(.tmp 18), (.tmp 22)]), none⟩, ⟨(some 3), (.mv (.tmp 23)), none⟩]
abbrev A68r9 : List AIns := [⟨(some 16), (.mv (.tmp 4)), none⟩, ⟨(some 17), (.bin .add (.tmp 16) (.cst (.int .i64 1))), none⟩, ⟨(some 4), (.mv (.tmp 17)), none⟩]
abbrev A68l6 : ACode := (.seq (.seq (.reg A68r7 [0, 3, 4, 15]) (.cond (.tmp 15) [0, 3, 4] .skip [3] (.exit 0))) (.seq (.block 1 (.reg A68r8 [0, 3, 4])) (.reg A68r9 [0, 3, 4])))
abbrev A68r10 : List AIns := [⟨(some 24), (.mv (.tmp 3)), none⟩, ⟨(some 2), (.mv (.tmp 24)), none⟩]
def A68 : AFun := ⟨25, 1, [(.tmp 2)], (.seq (.reg A68r1 [0]) (.seq (.seq (.reg A68r2 [0, 7]) (.cond (.tmp 7) [0] (.reg A68r3 [0]) [0] .skip)) (.seq (.reg A68r4 [0, 3]) (.seq (.seq (.reg A68r5 [0, 3, 4]) (.block 0 (.loop A68l6))) (.seq (.reg A68r10 [2]) .ret)))))⟩
theorem A68c : compF Try.prog Try.f68 = some A68 := by kernel_rfl
theorem A68k : Callable Try.prog 68 := fun a w => Try.call68 a w
theorem A68p {ds : List D} {r : D} (hl : ds.length ≤ A68.nt) (hw : W Try.prog A68.code (Fin A68.results r) ⟨argEnv 0 ds, fun _ => none⟩) : PCon Try.prog 68 ds r := pcon_of_W mixed Try.func68 A68k A68c hl hw
/- estovers/accounts.own -/
abbrev A69r1 : List AIns := [⟨(some 2), (.mv (.cst .nil)), none⟩]
abbrev A69r2 : List AIns := [⟨(some 6), (.mv (.tmp 0)), none⟩, ⟨(some 7), (.len (.tmp 6)), none⟩, ⟨(some 8), (.mkslice 1 8 [(.int .i64 0)] (.tmp 7) (.tmp 7)), none⟩, ⟨(some 3), (.mv (.tmp 8)), none⟩]
abbrev A69r3 : List AIns := [⟨(some 9), (.mv (.tmp 0)), none⟩, ⟨(some 10), (.len (.tmp 9)), none⟩, ⟨(some 11), (.mv (.cst (.int .i64 0))), none⟩]
abbrev A69r5 : List AIns := [⟨(some 12), (.bin .lss (.tmp 11) (.tmp 10)), none⟩]
abbrev A69r6 : List AIns := [⟨(some 13), (.mv (.tmp 11)), none⟩, ⟨(some 14), (.iaddr 5 (.tmp 9) (.tmp 11)), none⟩, ⟨(some 15), (.load true 5 (.tmp 14)), none⟩, ⟨(some 5), (.alloc [(.int .i64 0), (.int .i64 0), (.int .i64 0), (.int .i64 0), (.int .i64 0)]), none⟩, ⟨(some 4), (.mv (.tmp 13)), none⟩, ⟨none, (.store 5 (.tmp 5) (.tmp 15)), none⟩]
abbrev A69d7 : List AIns := [⟨(some 16), (.mv (.tmp 3)), none⟩, ⟨(some 17), (.mv (.tmp 4)), none⟩, ⟨(some 18), (.iaddr 1 (.tmp 16) (.tmp 17)), none⟩, ⟨(some 19), (.load false 1 (.tmp 18)), none⟩, ⟨(some 20), (.faddr 1 (.tmp 5)), none⟩, ⟨(some 21), (.load false 1 (.tmp 20)), none⟩, ⟨(some 22), (.bin .add (.tmp 19) (.tmp 21)), none⟩, ⟨(some 23), (.iaddr 1 (.tmp 16) (.tmp 17)), none⟩, ⟨none, (.store 1 (.tmp 23) (.tmp 22)), none⟩]
abbrev A69d7p : List AIns := [⟨(some 16), (.mv (.tmp 3)), none⟩, ⟨(some 17), (.mv (.tmp 4)), none⟩, ⟨(some 18), (.iaddr 1 (.tmp 16) (.tmp 17)), none⟩, ⟨(some 19), (.load false 1 (.tmp 18)), none⟩, ⟨(some 20), (.faddr 1 (.tmp 5)), none⟩, ⟨(some 21), (.load false 1 (.tmp 20)), none⟩, ⟨(some 22), (.bin .add (.tmp 19) (.tmp 21)), none⟩, ⟨(some 23), (.iaddr 1 (.tmp 16) (.tmp 17)), none⟩]
abbrev A69r8 : List AIns := [⟨(some 24), (.mv (.tmp 4)), none⟩, ⟨(some 25), (.bin .gtr (.tmp 24) (.cst (.int .i64 0))), none⟩]
abbrev A69d9 : List AIns := [⟨(some 26), (.mv (.tmp 3)), none⟩, ⟨(some 27), (.faddr 0 (.tmp 5)), none⟩, ⟨(some 28), (.load false 1 (.tmp 27)), none⟩, ⟨(some 29), (.iaddr 1 (.tmp 26) (.tmp 28)), none⟩, ⟨(some 30), (.load false 1 (.tmp 29)), none⟩, ⟨(some 31), (.faddr 1 (.tmp 5)), none⟩, ⟨(some 32), (.load false 1 (.tmp 31)), none⟩, ⟨(some 33), (.bin .sub (.tmp 30) (.tmp 32)), none⟩, ⟨(some 34), (.iaddr 1 (.tmp 26) (.tmp 28)), none⟩, ⟨none, (.store 1 (.tmp 34) (.tmp 33)), none⟩]
abbrev A69d9p : List AIns := [⟨(some 26), (.mv (.tmp 3)), none⟩, ⟨(some 27), (.faddr 0 (.tmp 5)), none⟩, ⟨(some 28), (.load false 1 (.tmp 27)), none⟩, ⟨(some 29), (.iaddr 1 (.tmp 26) (.tmp 28)), none⟩, ⟨(some 30), (.load false 1 (.tmp 29)), none⟩, ⟨(some 31), (.faddr 1 (.tmp 5)), none⟩, ⟨(some 32), (.load false 1 (.tmp 31)), none⟩, ⟨(some 33), (.bin .sub (.tmp 30) (.tmp 32)), none⟩, ⟨(some 34), (.iaddr 1 (.tmp 26) (.tmp 28)), none⟩]
abbrev A69c10 : ACode := (.dreg A69d9 [[], [], [1], [0, 1, 2], [0, 1, 2, 3], [], [5], [0, 1, 2, 3, 4, 5, 6], [0, 1, 2, 3, 4, 5, 6, 7], [0, 1, 2, 3, 4, 5, 6, 7, 8]] [3, 9, 10, 11])
abbrev A69c11 : ACode := (.seq (.reg A69r6 [3, 4, 5, 9, 10, 11]) (.seq (.dreg A69d7 [[], [], [0, 1], [0, 1, 2], [], [4], [0, 1, 2, 3, 4, 5], [0, 1, 2, 3, 4, 5, 6], [0, 1, 2, 3, 4, 5, 6, 7]] [3, 4, 5, 9, 10, 11]) (.seq (.reg A69r8 [3, 5, 9, 10, 11, 25]) (.cond (.tmp 25) [3, 5, 9, 10, 11] A69c10 [3, 9, 10, 11] .skip))))
abbrev A69r12 : List AIns := [⟨(some 35), (.bin .add (.tmp 11) (.cst (.int .i64 1))), none⟩, ⟨(some 11), (.mv (.tmp 35)), none⟩]
abbrev A69l4 : ACode := (.seq (.reg A69r5 [3, 9, 10, 11, 12]) (.seq (.cond (.tmp 12) [3, 9, 10, 11] .skip [3] (.exit 0)) (.seq (.block 1 A69c11) (.reg A69r12 [3, 9, 10, 11]))))
abbrev A69r13 : List AIns := [⟨(some 36), (.mv (.tmp 3)), none⟩, ⟨(some 2), (.mv (.tmp 36)), none⟩]
def A69 : AFun := ⟨37, 1, [(.tmp 2)], (.seq (.reg A69r1 [0]) (.seq (.reg A69r2 [0, 3]) (.seq (.seq (.reg A69r3 [3, 9, 10, 11]) (.block 0 (.loop A69l4))) (.seq (.reg A69r13 [2]) .ret))))⟩
theorem A69c : compF Try.prog Try.f69 = some A69 := by kernel_rfl
theorem A69k : Callable Try.prog 69 := fun a w => Try.call69 a w
theorem A69p {ds : List D} {r : D} (hl : ds.length ≤ A69.nt) (hw : W Try.prog A69.code (Fin A69.results r) ⟨argEnv 0 ds, fun _ => none⟩) : PCon Try.prog 69 ds r := pcon_of_W mixed Try.func69 A69k A69c hl hw
/- estovers/accounts.Inside -/
abbrev A70r1 : List AIns := [⟨(some 6), (.mv (.cst (.bool false))), none⟩]
abbrev A70r2 : List AIns := [⟨(some 7), (.mv (.tmp 0)), none⟩, ⟨(some 8), (.mv (.tmp 1)), none⟩, ⟨(some 9), (.call (.fnc 84) [(.tmp 7), (.tmp 8)]), none⟩, ⟨(some 10), (.mv (.tmp 9)), none⟩, ⟨(some 11), (.mv (.tmp 2)), (some (10, true))⟩, ⟨(some 12), (.bin .eql (.tmp 11) (.cst (.int .i64 (-1)))), (some (10, true))⟩, ⟨(some 13), (.mv (.tmp 12)), (some (10, true))⟩, ⟨(some 14), (.mv (.tmp 0)), (some (13, false))⟩, ⟨(some 15), (.mv (.tmp 1)), (some (13, false))⟩, ⟨(some 16), (.call (.fnc 86) [(.tmp 14), (.tmp 15)]), (some (13, false))⟩, ⟨(some 17), (.mv (.tmp 2)), (some (13, false))⟩, ⟨(some 18), (.call (.fnc 85) [(.tmp 16), (.tmp 17)]), (some (13, false))⟩, ⟨(some 19), (.pick (.tmp 13) (.cst (.bool true)) (.tmp 18)), (some (10, true))⟩, ⟨(some 20), (.pick (.tmp 10) (.tmp 19) (.cst (.bool false))), none⟩, ⟨(some 6), (.mv (.tmp 20)), none⟩]
def A70 : AFun := ⟨21, 3, [(.tmp 6)], (.seq (.reg A70r1 [0, 1, 2]) (.seq (.reg A70r2 [6]) .ret))⟩
theorem A70c : compF Try.prog Try.f70 = some A70 := by kernel_rfl
theorem A70k : Callable Try.prog 70 := fun a w => Try.call70 a w
theorem A70p {ds : List D} {r : D} (hl : ds.length ≤ A70.nt) (hw : W Try.prog A70.code (Fin A70.results r) ⟨argEnv 0 ds, fun _ => none⟩) : PCon Try.prog 70 ds r := pcon_of_W mixed Try.func70 A70k A70c hl hw
/- estovers/protection.Guarded -/
abbrev A71r1 : List AIns := [⟨(some 10), (.mv (.cst (.bool false))), none⟩]
abbrev A71r2 : List AIns := [⟨(some 16), (.mv (.tmp 0)), none⟩, ⟨(some 17), (.mv (.tmp 1)), none⟩, ⟨(some 18), (.call (.fnc 80) [(.tmp 16), (.tmp 17)]), none⟩, ⟨(some 19), (.un .not (.tmp 18)), none⟩, ⟨(some 20), (.mv (.tmp 19)), none⟩, ⟨(some 21), (.mv (.tmp 2)), (some (20, false))⟩, ⟨(some 22), (.bin .lss (.tmp 21) (.cst (.int .i64 0))), (some (20, false))⟩, ⟨(some 23), (.pick (.tmp 20) (.cst (.bool true)) (.tmp 22)), none⟩, ⟨(some 24), (.mv (.tmp 23)), none⟩, ⟨(some 25), (.mv (.tmp 2)), (some (24, false))⟩, ⟨(some 26), (.mv (.tmp 0)), (some (24, false))⟩, ⟨(some 27), (.len (.tmp 26)), (some (24, false))⟩, ⟨(some 28), (.bin .geq (.tmp 25) (.tmp 27)), (some (24, false))⟩, ⟨(some 29), (.pick (.tmp 24) (.cst (.bool true)) (.tmp 28)), none⟩, ⟨(some 30), (.mv (.tmp 29)), none⟩, ⟨(some 31), (.mv (.tmp 3)), (some (30, false))⟩, ⟨(some 32), (.bin .lss (.tmp 31) (.cst (.int .i64 (-1)))), (some (30, false))⟩, ⟨(some 33), (.pick (.tmp 30) (.cst (.bool true)) (.tmp 32)), none⟩, ⟨(some 34), (.mv (.tmp 33)), none⟩, ⟨(some 35), (.mv (.tmp 3)), (some (34, false))⟩, ⟨(some 36), (.mv (.tmp 0)), (some (34, false))⟩, ⟨(some 37), (.len (.tmp 36)), (some (34, false))⟩, ⟨(some 38), (.bin .geq (.tmp 35) (.tmp 37)), (some (34, false))⟩, ⟨(some 39), (.pick (.tmp 34) (.cst (.bool true)) (.tmp 38)), none⟩]
abbrev A71r3 : List AIns := [⟨(some 10), (.mv (.cst (.bool true))), none⟩]
abbrev A71r4 : List AIns := [⟨(some 40), (.mv (.tmp 0)), none⟩, ⟨(some 41), (.mv (.tmp 1)), none⟩, ⟨(some 42), (.call (.fnc 87) [(.tmp 40), (.tmp 41)]), none⟩, ⟨(some 11), (.mv (.tmp 42)), none⟩]
abbrev A71r5 : List AIns := [⟨(some 43), (.mv (.tmp 3)), none⟩, ⟨(some 44), (.mima true [(.tmp 43), (.cst (.int .i64 0))]), none⟩, ⟨(some 12), (.mv (.tmp 44)), none⟩]
abbrev A71r6 : List AIns := [⟨(some 13), (.mv (.cst (.bool false))), none⟩]
abbrev A71r7 : List AIns := [⟨(some 45), (.mv (.tmp 2)), none⟩, ⟨(some 14), (.mv (.tmp 45)), none⟩]
abbrev A71r9 : List AIns := [⟨(some 46), (.mv (.tmp 14)), none⟩, ⟨(some 47), (.mv (.tmp 12)), none⟩, ⟨(some 48), (.bin .gtr (.tmp 46) (.tmp 47)), none⟩]
abbrev A71r10 : List AIns := [⟨(some 49), (.mv (.tmp 0)), none⟩, ⟨(some 50), (.mv (.tmp 14)), none⟩, ⟨(some 51), (.iaddr 5 (.tmp 49) (.tmp 50)), none⟩, ⟨(some 52), (.faddr 2 (.tmp 51)), none⟩, ⟨(some 53), (.load false 1 (.tmp 52)), none⟩, ⟨(some 15), (.mv (.tmp 53)), none⟩]
abbrev A71r11 : List AIns := [⟨(some 54), (.mv (.tmp 4)), none⟩]
abbrev A71r12 : List AIns := [⟨(some 55), (.mv (.tmp 0)), none⟩, ⟨(some 56), (.mv (.tmp 14)), none⟩, ⟨(some 57), (.iaddr 5 (.tmp 55) (.tmp 56)), none⟩, ⟨(some 58), (.faddr 3 (.tmp 57)), none⟩, ⟨(some 59), (.load false 1 (.tmp 58)), none⟩, ⟨(some 15), (.mv (.tmp 59)), none⟩]
abbrev A71d13 : List AIns := [⟨(some 60), (.mv (.tmp 13)), none⟩, ⟨(some 61), (.mv (.tmp 60)), none⟩, ⟨(some 62), (.mv (.tmp 0)), (some (61, false))⟩, ⟨(some 63), (.mv (.tmp 14)), (some (61, false))⟩, ⟨(some 64), (.iaddr 5 (.tmp 62) (.tmp 63)), (some (61, false))⟩, ⟨(some 65), (.faddr 1 (.tmp 64)), (some (61, false))⟩, ⟨(some 66), (.load false 1 (.tmp 65)), (some (61, false))⟩, ⟨(some 67), (.mv (.tmp 11)), (some (61, false))⟩, ⟨(some 68), (.mv (.tmp 14)), (some (61, false))⟩, ⟨(some 69), (.iaddr 1 (.tmp 67) (.tmp 68)), (some (61, false))⟩, ⟨(some 70), (.load false 1 (.tmp 69)), (some (61, false))⟩, ⟨(some 71), (.bin .sub (.tmp 66) (.tmp 70)), (some (61, false))⟩, ⟨(some 72), (.mv (.tmp 15)), (some (61, false))⟩, ⟨(some 73), (.bin .leq (.tmp 71) (.tmp 72)), (some (61, false))⟩, ⟨(some 74), (.pick (.tmp 61) (.cst (.bool true)) (.tmp 73)), none⟩, ⟨(some 13), (.mv (.tmp 74)), none⟩]
abbrev A71r14 : List AIns := [⟨(some 75), (.mv (.tmp 0)), none⟩, ⟨(some 76), (.mv (.tmp 14)), none⟩, ⟨(some 77), (.iaddr 5 (.tmp 75) (.tmp 76)), none⟩, ⟨(some 78), (.faddr 0 (.tmp 77)), none⟩, ⟨(some 79), (.load false 1 (.tmp 78)), none⟩, ⟨(some 14), (.mv (.tmp 79)), none⟩]
abbrev A71c15 : ACode := (.seq (.reg A71r10 [0, 4, 11, 12, 13, 14, 15]) (.seq (.seq (.reg A71r11 [0, 4, 11, 12, 13, 14, 15, 54]) (.cond (.tmp 54) [0, 4, 11, 12, 13, 14] (.reg A71r12 [0, 4, 11, 12, 13, 14, 15]) [0, 4, 11, 12, 13, 14, 15] .skip)) (.seq (.dreg A71d13 [[], [0], [0, 1], [0, 1], [0, 1, 2, 3], [0, 1, 2, 3, 4], [0, 1, 2, 3, 4, 5], [0, 1], [0, 1], [0, 1, 7, 8], [0, 1, 7, 8, 9], [0, 1, 2, 3, 4, 5, 6, 7, 8, 9, 10], [0, 1], [0, 1, 2, 3, 4, 5, 6, 7, 8, 9, 10, 11, 12], [0, 1, 2, 3, 4, 5, 6, 7, 8, 9, 10, 11, 12, 13], [0, 1, 2, 3, 4, 5, 6, 7, 8, 9, 10, 11, 12, 13, 14]] [0, 4, 11, 12, 13, 14]) (.reg A71r14 [0, 4, 11, 12, 13, 14]))))
abbrev A71l8 : ACode := (.seq (.seq (.reg A71r9 [0, 4, 11, 12, 13, 14, 48]) (.cond (.tmp 48) [0, 4, 11, 12, 13, 14] .skip [12, 13, 14] (.exit 0))) (.block 1 A71c15))
abbrev A71r16 : List AIns := [⟨(some 80), (.mv (.tmp 13)), none⟩, ⟨(some 81), (.mv (.tmp 80)), none⟩, ⟨(some 82), (.mv (.tmp 14)), (some (81, false))⟩, ⟨(some 83), (.mv (.tmp 12)), (some (81, false))⟩, ⟨(some 84), (.bin .neq (.tmp 82) (.tmp 83)), (some (81, false))⟩, ⟨(some 85), (.pick (.tmp 81) (.cst (.bool true)) (.tmp 84)), none⟩, ⟨(some 10), (.mv (.tmp 85)), none⟩]
def A71 : AFun := ⟨86, 5, [(.tmp 10)], (.seq (.reg A71r1 [0, 1, 2, 3, 4]) (.seq (.seq (.reg A71r2 [0, 1, 2, 3, 4, 39]) (.cond (.tmp 39) [] (.seq (.reg A71r3 [10]) .ret) [0, 1, 2, 3, 4] .skip)) (.seq (.reg A71r4 [0, 2, 3, 4, 11]) (.seq (.reg A71r5 [0, 2, 4, 11, 12]) (.seq (.reg A71r6 [0, 2, 4, 11, 12, 13]) (.seq (.reg A71r7 [0, 4, 11, 12, 13, 14]) (.seq (.block 0 (.loop A71l8)) (.seq (.reg A71r16 [10]) .ret))))))))⟩
theorem A71c : compF Try.prog Try.f71 = some A71 := by kernel_rfl
theorem A71k : Callable Try.prog 71 := fun a w => Try.call71 a w
theorem A71p {ds : List D} {r : D} (hl : ds.length ≤ A71.nt) (hw : W Try.prog A71.code (Fin A71.results r) ⟨argEnv 0 ds, fun _ => none⟩) : PCon Try.prog 71 ds r := pcon_of_W mixed Try.func71 A71k A71c hl hw
/- (*estovers/reclaimplan.question).outside -/
abbrev A72r1 : List AIns := [⟨(some 3), (.box (.tmp 1)), none⟩, ⟨(some 4), (.mv (.cst (.bool false))), none⟩]
abbrev A72d2 : List AIns := [⟨(some 5), (.mv (.tmp 0)), none⟩, ⟨(some 6), (.nilck (.tmp 5)), none⟩, ⟨(some 7), (.faddr 1 (.tmp 6)), none⟩, ⟨(some 8), (.load false 1 (.tmp 7)), none⟩, ⟨(some 9), (.bin .geq (.tmp 8) (.cst (.int .i64 0))), none⟩, ⟨(some 10), (.mv (.tmp 9)), none⟩, ⟨(some 11), (.faddr 1 (.tmp 3)), (some (10, true))⟩, ⟨(some 12), (.load false 1 (.tmp 11)), (some (10, true))⟩, ⟨(some 13), (.bin .lss (.tmp 12) (.cst (.int .i64 0))), (some (10, true))⟩, ⟨(some 14), (.mv (.tmp 13)), (some (10, true))⟩, ⟨(some 15), (.mv (.tmp 0)), (some (14, false))⟩, ⟨(some 16), (.nilck (.tmp 15)), (some (14, false))⟩, ⟨(some 17), (.faddr 3 (.tmp 16)), (some (14, false))⟩, ⟨(some 18), (.load false 1 (.tmp 17)), (some (14, false))⟩, ⟨(some 19), (.faddr 1 (.tmp 3)), (some (14, false))⟩, ⟨(some 20), (.load false 1 (.tmp 19)), (some (14, false))⟩, ⟨(some 21), (.iaddr 1 (.tmp 18) (.tmp 20)), (some (14, false))⟩, ⟨(some 22), (.load false 1 (.tmp 21)), (some (14, false))⟩, ⟨(some 23), (.un .not (.tmp 22)), (some (14, false))⟩, ⟨(some 24), (.pick (.tmp 14) (.cst (.bool true)) (.tmp 23)), (some (10, true))⟩, ⟨(some 25), (.pick (.tmp 10) (.tmp 24) (.cst (.bool false))), none⟩, ⟨(some 4), (.mv (.tmp 25)), none⟩]
def A72 : AFun := ⟨26, 2, [(.tmp 4)], (.seq (.reg A72r1 [0, 3]) (.seq (.dreg A72d2 [[], [0], [0, 1], [0, 1, 2], [0, 1, 2, 3], [0, 1, 2, 3, 4], [0, 1, 2, 3, 4, 5], [0, 1, 2, 3, 4, 5, 6], [0, 1, 2, 3, 4, 5, 6, 7], [0, 1, 2, 3, 4, 5, 6, 7, 8], [0, 1, 2, 3, 4, 5, 6, 7, 8, 9], [0, 1, 2, 3, 4, 5, 6, 7, 8, 9, 10], [0, 1, 2, 3, 4, 5, 6, 7, 8, 9, 10, 11], [0, 1, 2, 3, 4, 5, 6, 7, 8, 9, 10, 11, 12], [0, 1, 2, 3, 4, 5, 6, 7, 8, 9], [0, 1, 2, 3, 4, 5, 6, 7, 8, 9, 14], [0, 1, 2, 3, 4, 5, 6, 7, 8, 9, 10, 11, 12, 13, 14, 15], [0, 1, 2, 3, 4, 5, 6, 7, 8, 9, 10, 11, 12, 13, 14, 15, 16], [0, 1, 2, 3, 4, 5, 6, 7, 8, 9, 10, 11, 12, 13, 14, 15, 16, 17], [0, 1, 2, 3, 4, 5, 6, 7, 8, 9, 10, 11, 12, 13, 14, 15, 16, 17, 18], [0, 1, 2, 3, 4, 5, 6, 7, 8, 9, 10, 11, 12, 13, 14, 15, 16, 17, 18, 19], [0, 1, 2, 3, 4, 5, 6, 7, 8, 9, 10, 11, 12, 13, 14, 15, 16, 17, 18, 19, 20]] [4]) .ret))⟩
theorem A72c : compF Try.prog Try.f72 = some A72 := by kernel_rfl
theorem A72k : Callable Try.prog 72 := fun a w => Try.call72 a w
theorem A72p {ds : List D} {r : D} (hl : ds.length ≤ A72.nt) (hw : W Try.prog A72.code (Fin A72.results r) ⟨argEnv 0 ds, fun _ => none⟩) : PCon Try.prog 72 ds r := pcon_of_W mixed Try.func72 A72k A72c hl hw
/- (*estovers/reclaimplan.question).guarded -/
abbrev A73r1 : List AIns := [⟨(some 3), (.box (.tmp 1)), none⟩, ⟨(some 4), (.mv (.cst (.bool false))), none⟩]
abbrev A73d2 : List AIns := [⟨(some 5), (.faddr 1 (.tmp 3)), none⟩, ⟨(some 6), (.load false 1 (.tmp 5)), none⟩, ⟨(some 7), (.bin .geq (.tmp 6) (.cst (.int .i64 0))), none⟩, ⟨(some 8), (.mv (.tmp 7)), none⟩, ⟨(some 9), (.mv (.tmp 0)), (some (8, true))⟩, ⟨(some 10), (.nilck (.tmp 9)), (some (8, true))⟩, ⟨(some 11), (.faddr 4 (.tmp 10)), (some (8, true))⟩, ⟨(some 12), (.load false 1 (.tmp 11)), (some (8, true))⟩, ⟨(some 13), (.faddr 1 (.tmp 3)), (some (8, true))⟩, ⟨(some 14), (.load false 1 (.tmp 13)), (some (8, true))⟩, ⟨(some 15), (.iaddr 1 (.tmp 12) (.tmp 14)), (some (8, true))⟩, ⟨(some 16), (.load false 1 (.tmp 15)), (some (8, true))⟩, ⟨(some 17), (.pick (.tmp 8) (.tmp 16) (.cst (.bool false))), none⟩, ⟨(some 4), (.mv (.tmp 17)), none⟩]
def A73 : AFun := ⟨18, 2, [(.tmp 4)], (.seq (.reg A73r1 [0, 3]) (.seq (.dreg A73d2 [[], [0], [0, 1], [0, 1, 2], [0, 1, 2, 3], [0, 1, 2, 3, 4], [0, 1, 2, 3, 4, 5], [0, 1, 2, 3, 4, 5, 6], [0, 1, 2, 3], [0, 1, 2, 3, 8], [0, 1, 2, 3, 4, 5, 6, 7, 8, 9], [0, 1, 2, 3, 4, 5, 6, 7, 8, 9, 10], [0, 1, 2, 3, 4, 5, 6, 7, 8, 9, 10, 11], [0, 1, 2, 3, 4, 5, 6, 7, 8, 9, 10, 11, 12]] [4]) .ret))⟩
theorem A73c : compF Try.prog Try.f73 = some A73 := by kernel_rfl
theorem A73k : Callable Try.prog 73 := fun a w => Try.call73 a w
theorem A73p {ds : List D} {r : D} (hl : ds.length ≤ A73.nt) (hw : W Try.prog A73.code (Fin A73.results r) ⟨argEnv 0 ds, fun _ => none⟩) : PCon Try.prog 73 ds r := pcon_of_W mixed Try.func73 A73k A73c hl hw
/- estovers/estoversref20.Guarded -/
abbrev A74r1 : List AIns := [⟨(some 10), (.mv (.cst (.bool false))), none⟩]
abbrev A74r2 : List AIns := [⟨(some 14), (.mv (.tmp 0)), none⟩, ⟨(some 15), (.mv (.tmp 1)), none⟩, ⟨(some 16), (.call (.fnc 88) [(.tmp 14), (.tmp 15)]), none⟩, ⟨(some 17), (.un .not (.tmp 16)), none⟩, ⟨(some 18), (.mv (.tmp 17)), none⟩, ⟨(some 19), (.mv (.tmp 2)), (some (18, false))⟩, ⟨(some 20), (.bin .lss (.tmp 19) (.cst (.int .i64 0))), (some (18, false))⟩, ⟨(some 21), (.pick (.tmp 18) (.cst (.bool true)) (.tmp 20)), none⟩, ⟨(some 22), (.mv (.tmp 21)), none⟩, ⟨(some 23), (.mv (.tmp 2)), (some (22, false))⟩, ⟨(some 24), (.mv (.tmp 0)), (some (22, false))⟩, ⟨(some 25), (.len (.tmp 24)), (some (22, false))⟩, ⟨(some 26), (.bin .geq (.tmp 23) (.tmp 25)), (some (22, false))⟩, ⟨(some 27), (.pick (.tmp 22) (.cst (.bool true)) (.tmp 26)), none⟩, ⟨(some 28), (.mv (.tmp 27)), none⟩, ⟨(some 29), (.mv (.tmp 3)), (some (28, false))⟩, ⟨(some 30), (.bin .lss (.tmp 29) (.cst (.int .i64 (-1)))), (some (28, false))⟩, ⟨(some 31), (.pick (.tmp 28) (.cst (.bool true)) (.tmp 30)), none⟩, ⟨(some 32), (.mv (.tmp 31)), none⟩, ⟨(some 33), (.mv (.tmp 3)), (some (32, false))⟩, ⟨(some 34), (.mv (.tmp 0)), (some (32, false))⟩, ⟨(some 35), (.len (.tmp 34)), (some (32, false))⟩, ⟨(some 36), (.bin .geq (.tmp 33) (.tmp 35)), (some (32, false))⟩, ⟨(some 37), (.pick (.tmp 32) (.cst (.bool true)) (.tmp 36)), none⟩, ⟨(some 38), (.mv (.tmp 37)), none⟩, ⟨(some 39), (.mv (.tmp 0)), (some (38, false))⟩, ⟨(some 40), (.mv (.tmp 2)), (some (38, false))⟩, ⟨(some 41), (.mv (.tmp 3)), (some (38, false))⟩, ⟨(some 42), (.call (.fnc 34) [(.tmp 39), (.tmp 40), (.tmp 41)]), (some (38, false))⟩, ⟨(some 43), (.un .not (.tmp 42)), (some (38, false))⟩, ⟨(some 44), (.pick (.tmp 38) (.cst (.bool true)) (.tmp 43)), none⟩]
abbrev A74r3 : List AIns := [⟨(some 10), (.mv (.cst (.bool true))), none⟩]
abbrev A74r4 : List AIns := [⟨(some 45), (.mv (.tmp 0)), none⟩, ⟨(some 46), (.mv (.tmp 1)), none⟩, ⟨(some 47), (.call (.fnc 89) [(.tmp 45), (.tmp 46)]), none⟩, ⟨(some 11), (.mv (.tmp 47)), none⟩]
abbrev A74r5 : List AIns := [⟨(some 48), (.mv (.tmp 2)), none⟩, ⟨(some 12), (.mv (.tmp 48)), none⟩]
abbrev A74r7 : List AIns := [⟨(some 49), (.mv (.tmp 12)), none⟩, ⟨(some 50), (.bin .gtr (.tmp 49) (.cst (.int .i64 0))), none⟩, ⟨(some 51), (.mv (.tmp 50)), none⟩, ⟨(some 52), (.mv (.tmp 12)), (some (51, true))⟩, ⟨(some 53), (.mv (.tmp 3)), (some (51, true))⟩, ⟨(some 54), (.bin .neq (.tmp 52) (.tmp 53)), (some (51, true))⟩, ⟨(some 55), (.pick (.tmp 51) (.tmp 54) (.cst (.bool false))), none⟩]
abbrev A74r8 : List AIns := [⟨(some 61), (.mv (.tmp 0)), none⟩, ⟨(some 62), (.mv (.tmp 12)), none⟩, ⟨(some 63), (.iaddr 5 (.tmp 61) (.tmp 62)), none⟩, ⟨(some 64), (.faddr 2 (.tmp 63)), none⟩, ⟨(some 65), (.load false 1 (.tmp 64)), none⟩, ⟨(some 13), (.mv (.tmp 65)), none⟩]
abbrev A74r9 : List AIns := [⟨(some 66), (.mv (.tmp 4)), none⟩]
abbrev A74r10 : List AIns := [⟨(some 67), (.mv (.tmp 0)), none⟩, ⟨(some 68), (.mv (.tmp 12)), none⟩, ⟨(some 69), (.iaddr 5 (.tmp 67) (.tmp 68)), none⟩, ⟨(some 70), (.faddr 3 (.tmp 69)), none⟩, ⟨(some 71), (.load false 1 (.tmp 70)), none⟩, ⟨(some 13), (.mv (.tmp 71)), none⟩]
abbrev A74d11 : List AIns := [⟨(some 72), (.mv (.tmp 0)), none⟩, ⟨(some 73), (.mv (.tmp 12)), none⟩, ⟨(some 74), (.iaddr 5 (.tmp 72) (.tmp 73)), none⟩, ⟨(some 75), (.faddr 1 (.tmp 74)), none⟩, ⟨(some 76), (.load false 1 (.tmp 75)), none⟩, ⟨(some 77), (.mv (.tmp 11)), none⟩, ⟨(some 78), (.mv (.tmp 12)), none⟩, ⟨(some 79), (.iaddr 1 (.tmp 77) (.tmp 78)), none⟩, ⟨(some 80), (.load false 1 (.tmp 79)), none⟩, ⟨(some 81), (.bin .sub (.tmp 76) (.tmp 80)), none⟩, ⟨(some 82), (.mv (.tmp 13)), none⟩, ⟨(some 83), (.bin .leq (.tmp 81) (.tmp 82)), none⟩]
abbrev A74r12 : List AIns := [⟨(some 10), (.mv (.cst (.bool true))), none⟩]
abbrev A74c13 : ACode := (.seq (.reg A74r8 [0, 3, 4, 11, 12, 13]) (.seq (.seq (.reg A74r9 [0, 3, 4, 11, 12, 13, 66]) (.cond (.tmp 66) [0, 3, 4, 11, 12] (.reg A74r10 [0, 3, 4, 11, 12, 13]) [0, 3, 4, 11, 12, 13] .skip)) (.seq (.dreg A74d11 [[], [], [0, 1], [0, 1, 2], [0, 1, 2, 3], [], [], [5, 6], [5, 6, 7], [0, 1, 2, 3, 4, 5, 6, 7, 8], [], [0, 1, 2, 3, 4, 5, 6, 7, 8, 9, 10]] [0, 3, 4, 11, 12, 83]) (.cond (.tmp 83) [] (.seq (.reg A74r12 [10]) .ret) [0, 3, 4, 11, 12] .skip))))
abbrev A74r14 : List AIns := [⟨(some 56), (.mv (.tmp 0)), none⟩, ⟨(some 57), (.mv (.tmp 12)), none⟩, ⟨(some 58), (.iaddr 5 (.tmp 56) (.tmp 57)), none⟩, ⟨(some 59), (.faddr 0 (.tmp 58)), none⟩, ⟨(some 60), (.load false 1 (.tmp 59)), none⟩, ⟨(some 12), (.mv (.tmp 60)), none⟩]
abbrev A74l6 : ACode := (.seq (.seq (.reg A74r7 [0, 3, 4, 11, 12, 55]) (.cond (.tmp 55) [0, 3, 4, 11, 12] .skip [] (.exit 0))) (.seq (.block 1 A74c13) (.reg A74r14 [0, 3, 4, 11, 12])))
abbrev A74r15 : List AIns := [⟨(some 10), (.mv (.cst (.bool false))), none⟩]
def A74 : AFun := ⟨84, 5, [(.tmp 10)], (.seq (.reg A74r1 [0, 1, 2, 3, 4]) (.seq (.seq (.reg A74r2 [0, 1, 2, 3, 4, 44]) (.cond (.tmp 44) [] (.seq (.reg A74r3 [10]) .ret) [0, 1, 2, 3, 4] .skip)) (.seq (.reg A74r4 [0, 2, 3, 4, 11]) (.seq (.seq (.reg A74r5 [0, 3, 4, 11, 12]) (.block 0 (.loop A74l6))) (.seq (.reg A74r15 [10]) .ret)))))⟩
theorem A74c : compF Try.prog Try.f74 = some A74 := by kernel_rfl
theorem A74k : Callable Try.prog 74 := fun a w => Try.call74 a w
theorem A74p {ds : List D} {r : D} (hl : ds.length ≤ A74.nt) (hw : W Try.prog A74.code (Fin A74.results r) ⟨argEnv 0 ds, fun _ => none⟩) : PCon Try.prog 74 ds r := pcon_of_W mixed Try.func74 A74k A74c hl hw
/- slices.IndexFunc[[]estovers/api.Page,estovers/api.Page] -/
abbrev A75r1 : List AIns := [⟨(some 4), (.mv (.cst (.int .i64 0))), none⟩]
abbrev A75r2 : List AIns := [⟨(some 6), (.mv (.tmp 0)), none⟩, ⟨(some 7), (.len (.tmp 6)), none⟩, ⟨(some 8), (.mv (.cst (.int .i64 0))), none⟩]
abbrev A75r4 : List AIns := [⟨(some 9), (.bin .lss (.tmp 8) (.tmp 7)), none⟩]
abbrev A75r5 : List AIns := [⟨(some 10), (.mv (.tmp 8)), none⟩, ⟨(some 5), (.mv (.tmp 10)), none⟩]
abbrev A75r6 : List AIns := [⟨(some 11), (.mv (.tmp 1)), none⟩, ⟨(some 12), (.mv (.tmp 0)), none⟩, ⟨(some 13), (.mv (.tmp 5)), none⟩, ⟨(some 14), (.iaddr 7 (.tmp 12) (.tmp 13)), none⟩, ⟨(some 15), (.load true 7 (.tmp 14)), none⟩, ⟨(some 16), (.call (.tmp 11) [(.tmp 15)]), none⟩]
abbrev A75r7 : List AIns := [⟨(some 17), (.mv (.tmp 5)), none⟩, ⟨(some 4), (.mv (.tmp 17)), none⟩]
abbrev A75c8 : ACode := (.seq (.reg A75r5 [0, 1, 5, 7, 8]) (.seq (.reg A75r6 [0, 1, 5, 7, 8, 16]) (.cond (.tmp 16) [5] (.seq (.reg A75r7 [4]) .ret) [0, 1, 7, 8] .skip)))
abbrev A75r9 : List AIns := [⟨(some 18), (.bin .add (.tmp 8) (.cst (.int .i64 1))), none⟩, ⟨(some 8), (.mv (.tmp 18)), none⟩]
abbrev A75l3 : ACode := (.seq (.reg A75r4 [0, 1, 7, 8, 9]) (.seq (.cond (.tmp 9) [0, 1, 7, 8] .skip [] (.exit 0)) (.seq (.block 1 A75c8) (.reg A75r9 [0, 1, 7, 8]))))
abbrev A75r10 : List AIns := [⟨(some 4), (.mv (.cst (.int .i64 (-1)))), none⟩]
def A75 : AFun := ⟨19, 2, [(.tmp 4)], (.seq (.reg A75r1 [0, 1]) (.seq (.seq (.reg A75r2 [0, 1, 7, 8]) (.block 0 (.loop A75l3))) (.seq (.reg A75r10 [4]) .ret)))⟩
theorem A75c : compF Try.prog Try.f75 = some A75 := by kernel_rfl
theorem A75k : Callable Try.prog 75 := fun a w => Try.call75 a w
theorem A75p {ds : List D} {r : D} (hl : ds.length ≤ A75.nt) (hw : W Try.prog A75.code (Fin A75.results r) ⟨argEnv 0 ds, fun _ => none⟩) : PCon Try.prog 75 ds r := pcon_of_W mixed Try.func75 A75k A75c hl hw
/- estovers/generations.isFrame -/
/- estovers/generations.clone -/
/- estovers/protection.valid -/
abbrev A80r1 : List AIns := [⟨(some 4), (.mv (.cst (.bool false))), none⟩]
abbrev A80r2 : List AIns := [⟨(some 7), (.mv (.tmp 0)), none⟩, ⟨(some 8), (.call (.fnc 41) [(.tmp 7)]), none⟩, ⟨(some 9), (.bin .neq (.tmp 8) (.cst (.int .i64 0))), none⟩, ⟨(some 10), (.mv (.tmp 9)), none⟩, ⟨(some 11), (.mv (.tmp 1)), (some (10, false))⟩, ⟨(some 12), (.len (.tmp 11)), (some (10, false))⟩, ⟨(some 13), (.mv (.tmp 0)), (some (10, false))⟩, ⟨(some 14), (.len (.tmp 13)), (some (10, false))⟩, ⟨(some 15), (.bin .neq (.tmp 12) (.tmp 14)), (some (10, false))⟩, ⟨(some 16), (.pick (.tmp 10) (.cst (.bool true)) (.tmp 15)), none⟩]
abbrev A80r3 : List AIns := [⟨(some 4), (.mv (.cst (.bool false))), none⟩]
abbrev A80r4 : List AIns := [⟨(some 17), (.mv (.tmp 1)), none⟩, ⟨(some 18), (.len (.tmp 17)), none⟩, ⟨(some 19), (.mv (.cst (.int .i64 0))), none⟩]
abbrev A80r6 : List AIns := [⟨(some 20), (.bin .lss (.tmp 19) (.tmp 18)), none⟩]
abbrev A80r7 : List AIns := [⟨(some 21), (.iaddr 1 (.tmp 17) (.tmp 19)), none⟩, ⟨(some 22), (.load false 1 (.tmp 21)), none⟩, ⟨(some 6), (.mv (.tmp 22)), none⟩]
abbrev A80r8 : List AIns := [⟨(some 23), (.mv (.tmp 6)), none⟩, ⟨(some 24), (.bin .lss (.tmp 23) (.cst (.int .i64 0))), none⟩, ⟨(some 25), (.mv (.tmp 24)), none⟩, ⟨(some 26), (.mv (.tmp 6)), (some (25, false))⟩, ⟨(some 27), (.bin .gtr (.tmp 26) (.cst (.int .i64 1048576))), (some (25, false))⟩, ⟨(some 28), (.pick (.tmp 25) (.cst (.bool true)) (.tmp 27)), none⟩]
abbrev A80r9 : List AIns := [⟨(some 4), (.mv (.cst (.bool false))), none⟩]
abbrev A80c10 : ACode := (.seq (.reg A80r7 [6, 17, 18, 19]) (.seq (.reg A80r8 [17, 18, 19, 28]) (.cond (.tmp 28) [] (.seq (.reg A80r9 [4]) .ret) [17, 18, 19] .skip)))
abbrev A80r11 : List AIns := [⟨(some 29), (.bin .add (.tmp 19) (.cst (.int .i64 1))), none⟩, ⟨(some 19), (.mv (.tmp 29)), none⟩]
abbrev A80l5 : ACode := (.seq (.reg A80r6 [17, 18, 19, 20]) (.seq (.cond (.tmp 20) [17, 18, 19] .skip [] (.exit 0)) (.seq (.block 1 A80c10) (.reg A80r11 [17, 18, 19]))))
abbrev A80r12 : List AIns := [⟨(some 4), (.mv (.cst (.bool true))), none⟩]
def A80 : AFun := ⟨30, 2, [(.tmp 4)], (.seq (.reg A80r1 [0, 1]) (.seq (.seq (.reg A80r2 [1, 16]) (.cond (.tmp 16) [] (.seq (.reg A80r3 [4]) .ret) [1] .skip)) (.seq (.seq (.reg A80r4 [17, 18, 19]) (.block 0 (.loop A80l5))) (.seq (.reg A80r12 [4]) .ret))))⟩
theorem A80c : compF Try.prog Try.f80 = some A80 := by kernel_rfl
theorem A80k : Callable Try.prog 80 := fun a w => Try.call80 a w
theorem A80p {ds : List D} {r : D} (hl : ds.length ≤ A80.nt) (hw : W Try.prog A80.code (Fin A80.results r) ⟨argEnv 0 ds, fun _ => none⟩) : PCon Try.prog 80 ds r := pcon_of_W mixed Try.func80 A80k A80c hl hw
/- estovers/accounts.Own -/
/- estovers/accounts.in -/
abbrev A82r1 : List AIns := [⟨(some 2), (.mv (.cst (.bool false))), none⟩]
abbrev A82r2 : List AIns := [⟨(some 3), (.mv (.tmp 0)), none⟩, ⟨(some 4), (.bin .geq (.tmp 3) (.cst (.int .i64 0))), none⟩, ⟨(some 5), (.mv (.tmp 4)), none⟩, ⟨(some 6), (.mv (.tmp 0)), (some (5, true))⟩, ⟨(some 7), (.bin .leq (.tmp 6) (.cst (.int .i64 1048576))), (some (5, true))⟩, ⟨(some 8), (.pick (.tmp 5) (.tmp 7) (.cst (.bool false))), none⟩, ⟨(some 2), (.mv (.tmp 8)), none⟩]
def A82 : AFun := ⟨9, 1, [(.tmp 2)], (.seq (.reg A82r1 [0]) (.seq (.reg A82r2 [2]) .ret))⟩
theorem A82c : compF Try.prog Try.f82 = some A82 := by kernel_rfl
theorem A82k : Callable Try.prog 82 := fun a w => Try.call82 a w
theorem A82p {ds : List D} {r : D} (hl : ds.length ≤ A82.nt) (hw : W Try.prog A82.code (Fin A82.results r) ⟨argEnv 0 ds, fun _ => none⟩) : PCon Try.prog 82 ds r := pcon_of_W mixed Try.func82 A82k A82c hl hw
/- slices.IndexFunc[[]estovers/api.Account,estovers/api.Account] -/
abbrev A83r1 : List AIns := [⟨(some 4), (.mv (.cst (.int .i64 0))), none⟩]
abbrev A83r2 : List AIns := [⟨(some 6), (.mv (.tmp 0)), none⟩, ⟨(some 7), (.len (.tmp 6)), none⟩, ⟨(some 8), (.mv (.cst (.int .i64 0))), none⟩]
abbrev A83r4 : List AIns := [⟨(some 9), (.bin .lss (.tmp 8) (.tmp 7)), none⟩]
abbrev A83r5 : List AIns := [⟨(some 10), (.mv (.tmp 8)), none⟩, ⟨(some 5), (.mv (.tmp 10)), none⟩]
abbrev A83r6 : List AIns := [⟨(some 11), (.mv (.tmp 1)), none⟩, ⟨(some 12), (.mv (.tmp 0)), none⟩, ⟨(some 13), (.mv (.tmp 5)), none⟩, ⟨(some 14), (.iaddr 5 (.tmp 12) (.tmp 13)), none⟩, ⟨(some 15), (.load true 5 (.tmp 14)), none⟩, ⟨(some 16), (.call (.tmp 11) [(.tmp 15)]), none⟩]
abbrev A83r7 : List AIns := [⟨(some 17), (.mv (.tmp 5)), none⟩, ⟨(some 4), (.mv (.tmp 17)), none⟩]
abbrev A83c8 : ACode := (.seq (.reg A83r5 [0, 1, 5, 7, 8]) (.seq (.reg A83r6 [0, 1, 5, 7, 8, 16]) (.cond (.tmp 16) [5] (.seq (.reg A83r7 [4]) .ret) [0, 1, 7, 8] .skip)))
abbrev A83r9 : List AIns := [⟨(some 18), (.bin .add (.tmp 8) (.cst (.int .i64 1))), none⟩, ⟨(some 8), (.mv (.tmp 18)), none⟩]
abbrev A83l3 : ACode := (.seq (.reg A83r4 [0, 1, 7, 8, 9]) (.seq (.cond (.tmp 9) [0, 1, 7, 8] .skip [] (.exit 0)) (.seq (.block 1 A83c8) (.reg A83r9 [0, 1, 7, 8]))))
abbrev A83r10 : List AIns := [⟨(some 4), (.mv (.cst (.int .i64 (-1)))), none⟩]
def A83 : AFun := ⟨19, 2, [(.tmp 4)], (.seq (.reg A83r1 [0, 1]) (.seq (.seq (.reg A83r2 [0, 1, 7, 8]) (.block 0 (.loop A83l3))) (.seq (.reg A83r10 [4]) .ret)))⟩
theorem A83c : compF Try.prog Try.f83 = some A83 := by kernel_rfl
theorem A83k : Callable Try.prog 83 := fun a w => Try.call83 a w
theorem A83p {ds : List D} {r : D} (hl : ds.length ≤ A83.nt) (hw : W Try.prog A83.code (Fin A83.results r) ⟨argEnv 0 ds, fun _ => none⟩) : PCon Try.prog 83 ds r := pcon_of_W mixed Try.func83 A83k A83c hl hw
/- estovers/accounts.is -/
abbrev A84r1 : List AIns := [⟨(some 4), (.mv (.cst (.bool false))), none⟩]
abbrev A84r2 : List AIns := [⟨(some 5), (.mv (.tmp 0)), none⟩, ⟨(some 6), (.call (.fnc 41) [(.tmp 5)]), none⟩, ⟨(some 7), (.bin .eql (.tmp 6) (.cst (.int .i64 0))), none⟩, ⟨(some 8), (.mv (.tmp 7)), none⟩, ⟨(some 9), (.mv (.tmp 1)), (some (8, true))⟩, ⟨(some 10), (.bin .geq (.tmp 9) (.cst (.int .i64 0))), (some (8, true))⟩, ⟨(some 11), (.pick (.tmp 8) (.tmp 10) (.cst (.bool false))), none⟩, ⟨(some 12), (.mv (.tmp 11)), none⟩, ⟨(some 13), (.mv (.tmp 1)), (some (12, true))⟩, ⟨(some 14), (.mv (.tmp 0)), (some (12, true))⟩, ⟨(some 15), (.len (.tmp 14)), (some (12, true))⟩, ⟨(some 16), (.bin .lss (.tmp 13) (.tmp 15)), (some (12, true))⟩, ⟨(some 17), (.pick (.tmp 12) (.tmp 16) (.cst (.bool false))), none⟩, ⟨(some 4), (.mv (.tmp 17)), none⟩]
def A84 : AFun := ⟨18, 2, [(.tmp 4)], (.seq (.reg A84r1 [0, 1]) (.seq (.reg A84r2 [4]) .ret))⟩
theorem A84c : compF Try.prog Try.f84 = some A84 := by kernel_rfl
theorem A84k : Callable Try.prog 84 := fun a w => Try.call84 a w
theorem A84p {ds : List D} {r : D} (hl : ds.length ≤ A84.nt) (hw : W Try.prog A84.code (Fin A84.results r) ⟨argEnv 0 ds, fun _ => none⟩) : PCon Try.prog 84 ds r := pcon_of_W mixed Try.func84 A84k A84c hl hw
/- slices.Contains[[]int,int] -/
abbrev A85r1 : List AIns := [⟨(some 4), (.mv (.cst (.bool false))), none⟩]
abbrev A85r2 : List AIns := [⟨(some 5), (.mv (.tmp 0)), none⟩, ⟨(some 6), (.mv (.tmp 1)), none⟩, ⟨(some 7), (.call (.fnc 92) [(.tmp 5), (.tmp 6)]), none⟩, ⟨(some 8), (.bin .geq (.tmp 7) (.cst (.int .i64 0))), none⟩, ⟨(some 4), (.mv (.tmp 8)), none⟩]
def A85 : AFun := ⟨9, 2, [(.tmp 4)], (.seq (.reg A85r1 [0, 1]) (.seq (.reg A85r2 [4]) .ret))⟩
theorem A85c : compF Try.prog Try.f85 = some A85 := by kernel_rfl
theorem A85k : Callable Try.prog 85 := fun a w => Try.call85 a w
theorem A85p {ds : List D} {r : D} (hl : ds.length ≤ A85.nt) (hw : W Try.prog A85.code (Fin A85.results r) ⟨argEnv 0 ds, fun _ => none⟩) : PCon Try.prog 85 ds r := pcon_of_W mixed Try.func85 A85k A85c hl hw
/- estovers/accounts.Path -/
abbrev A86r1 : List AIns := [⟨(some 4), (.mv (.cst .nil)), none⟩]
abbrev A86r2 : List AIns := [⟨(some 7), (.mv (.tmp 0)), none⟩, ⟨(some 8), (.mv (.tmp 1)), none⟩, ⟨(some 9), (.call (.fnc 84) [(.tmp 7), (.tmp 8)]), none⟩, ⟨(some 10), (.un .not (.tmp 9)), none⟩]
abbrev A86r3 : List AIns := [⟨(some 4), (.mv (.cst .nil)), none⟩]
abbrev A86r4 : List AIns := [⟨(some 5), (.mv (.cst .nil)), none⟩]
abbrev A86r5 : List AIns := [⟨(some 11), (.mv (.tmp 1)), none⟩, ⟨(some 6), (.mv (.tmp 11)), none⟩]
abbrev A86r7 : List AIns := [⟨(some 12), (.mv (.tmp 6)), none⟩, ⟨(some 13), (.bin .geq (.tmp 12) (.cst (.int .i64 0))), none⟩]
abbrev A86r8 : List AIns := [⟨(some 19), (.mv (.tmp 5)), none⟩, ⟨(some 20), (.mv (.tmp 6)), none⟩, ⟨(some 21), (.buildS 1 [(.int .i64 0)] 1 [(0, (1, (.tmp 20)))]), none⟩, ⟨(some 22), (.append 1 8 (.tmp 19) (.tmp 21)), none⟩, ⟨(some 5), (.mv (.tmp 22)), none⟩]
abbrev A86r9 : List AIns := [⟨(some 14), (.mv (.tmp 0)), none⟩, ⟨(some 15), (.mv (.tmp 6)), none⟩, ⟨(some 16), (.iaddr 5 (.tmp 14) (.tmp 15)), none⟩, ⟨(some 17), (.faddr 0 (.tmp 16)), none⟩, ⟨(some 18), (.load false 1 (.tmp 17)), none⟩, ⟨(some 6), (.mv (.tmp 18)), none⟩]
abbrev A86l6 : ACode := (.seq (.seq (.reg A86r7 [0, 5, 6, 13]) (.cond (.tmp 13) [0, 5, 6] .skip [5] (.exit 0))) (.seq (.block 1 (.reg A86r8 [0, 5, 6])) (.reg A86r9 [0, 5, 6])))
abbrev A86r10 : List AIns := [⟨(some 23), (.mv (.tmp 5)), none⟩, ⟨(some 4), (.mv (.tmp 23)), none⟩]
def A86 : AFun := ⟨24, 2, [(.tmp 4)], (.seq (.reg A86r1 [0, 1]) (.seq (.seq (.reg A86r2 [0, 1, 10]) (.cond (.tmp 10) [] (.seq (.reg A86r3 [4]) .ret) [0, 1] .skip)) (.seq (.reg A86r4 [0, 1, 5]) (.seq (.seq (.reg A86r5 [0, 5, 6]) (.block 0 (.loop A86l6))) (.seq (.reg A86r10 [4]) .ret)))))⟩
theorem A86c : compF Try.prog Try.f86 = some A86 := by kernel_rfl
theorem A86k : Callable Try.prog 86 := fun a w => Try.call86 a w
theorem A86p {ds : List D} {r : D} (hl : ds.length ≤ A86.nt) (hw : W Try.prog A86.code (Fin A86.results r) ⟨argEnv 0 ds, fun _ => none⟩) : PCon Try.prog 86 ds r := pcon_of_W mixed Try.func86 A86k A86c hl hw
/- estovers/protection.inside -/
abbrev A87r1 : List AIns := [⟨(some 4), (.mv (.cst .nil)), none⟩]
abbrev A87r2 : List AIns := [⟨(some 7), (.mv (.tmp 0)), none⟩, ⟨(some 8), (.len (.tmp 7)), none⟩, ⟨(some 9), (.mkslice 1 8 [(.int .i64 0)] (.tmp 8) (.tmp 8)), none⟩, ⟨(some 5), (.mv (.tmp 9)), none⟩]
abbrev A87r3 : List AIns := [⟨(some 10), (.mv (.tmp 0)), none⟩, ⟨(some 11), (.len (.tmp 10)), none⟩, ⟨(some 12), (.bin .sub (.tmp 11) (.cst (.int .i64 1))), none⟩, ⟨(some 6), (.mv (.tmp 12)), none⟩]
abbrev A87r5 : List AIns := [⟨(some 13), (.mv (.tmp 6)), none⟩, ⟨(some 14), (.bin .geq (.tmp 13) (.cst (.int .i64 0))), none⟩]
abbrev A87d6 : List AIns := [⟨(some 17), (.mv (.tmp 5)), none⟩, ⟨(some 18), (.mv (.tmp 6)), none⟩, ⟨(some 19), (.iaddr 1 (.tmp 17) (.tmp 18)), none⟩, ⟨(some 20), (.load false 1 (.tmp 19)), none⟩, ⟨(some 21), (.mv (.tmp 1)), none⟩, ⟨(some 22), (.mv (.tmp 6)), none⟩, ⟨(some 23), (.iaddr 1 (.tmp 21) (.tmp 22)), none⟩, ⟨(some 24), (.load false 1 (.tmp 23)), none⟩, ⟨(some 25), (.bin .add (.tmp 20) (.tmp 24)), none⟩, ⟨(some 26), (.iaddr 1 (.tmp 17) (.tmp 18)), none⟩, ⟨none, (.store 1 (.tmp 26) (.tmp 25)), none⟩]
abbrev A87d6p : List AIns := [⟨(some 17), (.mv (.tmp 5)), none⟩, ⟨(some 18), (.mv (.tmp 6)), none⟩, ⟨(some 19), (.iaddr 1 (.tmp 17) (.tmp 18)), none⟩, ⟨(some 20), (.load false 1 (.tmp 19)), none⟩, ⟨(some 21), (.mv (.tmp 1)), none⟩, ⟨(some 22), (.mv (.tmp 6)), none⟩, ⟨(some 23), (.iaddr 1 (.tmp 21) (.tmp 22)), none⟩, ⟨(some 24), (.load false 1 (.tmp 23)), none⟩, ⟨(some 25), (.bin .add (.tmp 20) (.tmp 24)), none⟩, ⟨(some 26), (.iaddr 1 (.tmp 17) (.tmp 18)), none⟩]
abbrev A87r7 : List AIns := [⟨(some 27), (.mv (.tmp 6)), none⟩, ⟨(some 28), (.bin .gtr (.tmp 27) (.cst (.int .i64 0))), none⟩]
abbrev A87d8 : List AIns := [⟨(some 29), (.mv (.tmp 5)), none⟩, ⟨(some 30), (.mv (.tmp 0)), none⟩, ⟨(some 31), (.mv (.tmp 6)), none⟩, ⟨(some 32), (.iaddr 5 (.tmp 30) (.tmp 31)), none⟩, ⟨(some 33), (.faddr 0 (.tmp 32)), none⟩, ⟨(some 34), (.load false 1 (.tmp 33)), none⟩, ⟨(some 35), (.iaddr 1 (.tmp 29) (.tmp 34)), none⟩, ⟨(some 36), (.load false 1 (.tmp 35)), none⟩, ⟨(some 37), (.mv (.tmp 5)), none⟩, ⟨(some 38), (.mv (.tmp 6)), none⟩, ⟨(some 39), (.iaddr 1 (.tmp 37) (.tmp 38)), none⟩, ⟨(some 40), (.load false 1 (.tmp 39)), none⟩, ⟨(some 41), (.bin .add (.tmp 36) (.tmp 40)), none⟩, ⟨(some 42), (.iaddr 1 (.tmp 29) (.tmp 34)), none⟩, ⟨none, (.store 1 (.tmp 42) (.tmp 41)), none⟩]
abbrev A87d8p : List AIns := [⟨(some 29), (.mv (.tmp 5)), none⟩, ⟨(some 30), (.mv (.tmp 0)), none⟩, ⟨(some 31), (.mv (.tmp 6)), none⟩, ⟨(some 32), (.iaddr 5 (.tmp 30) (.tmp 31)), none⟩, ⟨(some 33), (.faddr 0 (.tmp 32)), none⟩, ⟨(some 34), (.load false 1 (.tmp 33)), none⟩, ⟨(some 35), (.iaddr 1 (.tmp 29) (.tmp 34)), none⟩, ⟨(some 36), (.load false 1 (.tmp 35)), none⟩, ⟨(some 37), (.mv (.tmp 5)), none⟩, ⟨(some 38), (.mv (.tmp 6)), none⟩, ⟨(some 39), (.iaddr 1 (.tmp 37) (.tmp 38)), none⟩, ⟨(some 40), (.load false 1 (.tmp 39)), none⟩, ⟨(some 41), (.bin .add (.tmp 36) (.tmp 40)), none⟩, ⟨(some 42), (.iaddr 1 (.tmp 29) (.tmp 34)), none⟩]
abbrev A87c9 : ACode := (.dreg A87d8 [[], [], [], [1, 2], [1, 2, 3], [1, 2, 3, 4], [0, 1, 2, 3, 4, 5], [0, 1, 2, 3, 4, 5, 6], [], [], [8, 9], [8, 9, 10], [0, 1, 2, 3, 4, 5, 6, 7, 8, 9, 10, 11], [0, 1, 2, 3, 4, 5, 6, 7, 8, 9, 10, 11, 12], [0, 1, 2, 3, 4, 5, 6, 7, 8, 9, 10, 11, 12, 13]] [0, 1, 5, 6])
abbrev A87c10 : ACode := (.seq (.dreg A87d6 [[], [], [0, 1], [0, 1, 2], [], [], [4, 5], [4, 5, 6], [0, 1, 2, 3, 4, 5, 6, 7], [0, 1, 2, 3, 4, 5, 6, 7, 8], [0, 1, 2, 3, 4, 5, 6, 7, 8, 9]] [0, 1, 5, 6]) (.seq (.reg A87r7 [0, 1, 5, 6, 28]) (.cond (.tmp 28) [0, 1, 5, 6] A87c9 [0, 1, 5, 6] .skip)))
abbrev A87r11 : List AIns := [⟨(some 15), (.mv (.tmp 6)), none⟩, ⟨(some 16), (.bin .sub (.tmp 15) (.cst (.int .i64 1))), none⟩, ⟨(some 6), (.mv (.tmp 16)), none⟩]
abbrev A87l4 : ACode := (.seq (.seq (.reg A87r5 [0, 1, 5, 6, 14]) (.cond (.tmp 14) [0, 1, 5, 6] .skip [5] (.exit 0))) (.seq (.block 1 A87c10) (.reg A87r11 [0, 1, 5, 6])))
abbrev A87r12 : List AIns := [⟨(some 43), (.mv (.tmp 5)), none⟩, ⟨(some 4), (.mv (.tmp 43)), none⟩]
def A87 : AFun := ⟨44, 2, [(.tmp 4)], (.seq (.reg A87r1 [0, 1]) (.seq (.reg A87r2 [0, 1, 5]) (.seq (.seq (.reg A87r3 [0, 1, 5, 6]) (.block 0 (.loop A87l4))) (.seq (.reg A87r12 [4]) .ret))))⟩
theorem A87c : compF Try.prog Try.f87 = some A87 := by kernel_rfl
theorem A87k : Callable Try.prog 87 := fun a w => Try.call87 a w
theorem A87p {ds : List D} {r : D} (hl : ds.length ≤ A87.nt) (hw : W Try.prog A87.code (Fin A87.results r) ⟨argEnv 0 ds, fun _ => none⟩) : PCon Try.prog 87 ds r := pcon_of_W mixed Try.func87 A87k A87c hl hw
/- estovers/estoversref20.valid -/
abbrev A88r1 : List AIns := [⟨(some 4), (.mv (.cst (.bool false))), none⟩]
abbrev A88r2 : List AIns := [⟨(some 6), (.mv (.tmp 0)), none⟩, ⟨(some 7), (.call (.fnc 33) [(.tmp 6)]), none⟩, ⟨(some 8), (.bin .neq (.tmp 7) (.cst (.int .i64 0))), none⟩, ⟨(some 9), (.mv (.tmp 8)), none⟩, ⟨(some 10), (.mv (.tmp 1)), (some (9, false))⟩, ⟨(some 11), (.len (.tmp 10)), (some (9, false))⟩, ⟨(some 12), (.mv (.tmp 0)), (some (9, false))⟩, ⟨(some 13), (.len (.tmp 12)), (some (9, false))⟩, ⟨(some 14), (.bin .neq (.tmp 11) (.tmp 13)), (some (9, false))⟩, ⟨(some 15), (.pick (.tmp 9) (.cst (.bool true)) (.tmp 14)), none⟩]
abbrev A88r3 : List AIns := [⟨(some 4), (.mv (.cst (.bool false))), none⟩]
abbrev A88r4 : List AIns := [⟨(some 5), (.mv (.cst (.int .i64 0))), none⟩]
abbrev A88r6 : List AIns := [⟨(some 16), (.mv (.tmp 5)), none⟩, ⟨(some 17), (.mv (.tmp 1)), none⟩, ⟨(some 18), (.len (.tmp 17)), none⟩, ⟨(some 19), (.bin .lss (.tmp 16) (.tmp 18)), none⟩]
abbrev A88r7 : List AIns := [⟨(some 22), (.mv (.tmp 1)), none⟩, ⟨(some 23), (.mv (.tmp 5)), none⟩, ⟨(some 24), (.iaddr 1 (.tmp 22) (.tmp 23)), none⟩, ⟨(some 25), (.load false 1 (.tmp 24)), none⟩, ⟨(some 26), (.bin .lss (.tmp 25) (.cst (.int .i64 0))), none⟩, ⟨(some 27), (.mv (.tmp 26)), none⟩, ⟨(some 28), (.mv (.tmp 1)), (some (27, false))⟩, ⟨(some 29), (.mv (.tmp 5)), (some (27, false))⟩, ⟨(some 30), (.iaddr 1 (.tmp 28) (.tmp 29)), (some (27, false))⟩, ⟨(some 31), (.load false 1 (.tmp 30)), (some (27, false))⟩, ⟨(some 32), (.bin .gtr (.tmp 31) (.cst (.int .i64 1048576))), (some (27, false))⟩, ⟨(some 33), (.pick (.tmp 27) (.cst (.bool true)) (.tmp 32)), none⟩]
abbrev A88r8 : List AIns := [⟨(some 4), (.mv (.cst (.bool false))), none⟩]
abbrev A88c9 : ACode := (.seq (.reg A88r7 [1, 5, 33]) (.cond (.tmp 33) [] (.seq (.reg A88r8 [4]) .ret) [1, 5] .skip))
abbrev A88r10 : List AIns := [⟨(some 20), (.mv (.tmp 5)), none⟩, ⟨(some 21), (.bin .add (.tmp 20) (.cst (.int .i64 1))), none⟩, ⟨(some 5), (.mv (.tmp 21)), none⟩]
abbrev A88l5 : ACode := (.seq (.seq (.reg A88r6 [1, 5, 19]) (.cond (.tmp 19) [1, 5] .skip [] (.exit 0))) (.seq (.block 1 A88c9) (.reg A88r10 [1, 5])))
abbrev A88r11 : List AIns := [⟨(some 4), (.mv (.cst (.bool true))), none⟩]
def A88 : AFun := ⟨34, 2, [(.tmp 4)], (.seq (.reg A88r1 [0, 1]) (.seq (.seq (.reg A88r2 [1, 15]) (.cond (.tmp 15) [] (.seq (.reg A88r3 [4]) .ret) [1] .skip)) (.seq (.seq (.reg A88r4 [1, 5]) (.block 0 (.loop A88l5))) (.seq (.reg A88r11 [4]) .ret))))⟩
theorem A88c : compF Try.prog Try.f88 = some A88 := by kernel_rfl
theorem A88k : Callable Try.prog 88 := fun a w => Try.call88 a w
theorem A88p {ds : List D} {r : D} (hl : ds.length ≤ A88.nt) (hw : W Try.prog A88.code (Fin A88.results r) ⟨argEnv 0 ds, fun _ => none⟩) : PCon Try.prog 88 ds r := pcon_of_W mixed Try.func88 A88k A88c hl hw
/- estovers/estoversref20.inside -/
abbrev A89r1 : List AIns := [⟨(some 4), (.mv (.cst .nil)), none⟩]
abbrev A89r2 : List AIns := [⟨(some 8), (.mv (.tmp 0)), none⟩, ⟨(some 9), (.len (.tmp 8)), none⟩, ⟨(some 10), (.mkslice 1 8 [(.int .i64 0)] (.tmp 9) (.tmp 9)), none⟩, ⟨(some 5), (.mv (.tmp 10)), none⟩]
abbrev A89r3 : List AIns := [⟨(some 6), (.mv (.cst (.int .i64 0))), none⟩]
abbrev A89r5 : List AIns := [⟨(some 11), (.mv (.tmp 6)), none⟩, ⟨(some 12), (.mv (.tmp 0)), none⟩, ⟨(some 13), (.len (.tmp 12)), none⟩, ⟨(some 14), (.bin .lss (.tmp 11) (.tmp 13)), none⟩]
abbrev A89r6 : List AIns := [⟨(some 17), (.mv (.tmp 6)), none⟩, ⟨(some 7), (.mv (.tmp 17)), none⟩]
abbrev A89r8 : List AIns := [⟨(some 18), (.mv (.tmp 7)), none⟩, ⟨(some 19), (.bin .geq (.tmp 18) (.cst (.int .i64 0))), none⟩]
abbrev A89d9 : List AIns := [⟨(some 25), (.mv (.tmp 5)), none⟩, ⟨(some 26), (.mv (.tmp 7)), none⟩, ⟨(some 27), (.iaddr 1 (.tmp 25) (.tmp 26)), none⟩, ⟨(some 28), (.load false 1 (.tmp 27)), none⟩, ⟨(some 29), (.mv (.tmp 1)), none⟩, ⟨(some 30), (.mv (.tmp 6)), none⟩, ⟨(some 31), (.iaddr 1 (.tmp 29) (.tmp 30)), none⟩, ⟨(some 32), (.load false 1 (.tmp 31)), none⟩, ⟨(some 33), (.bin .add (.tmp 28) (.tmp 32)), none⟩, ⟨(some 34), (.iaddr 1 (.tmp 25) (.tmp 26)), none⟩, ⟨none, (.store 1 (.tmp 34) (.tmp 33)), none⟩]
abbrev A89d9p : List AIns := [⟨(some 25), (.mv (.tmp 5)), none⟩, ⟨(some 26), (.mv (.tmp 7)), none⟩, ⟨(some 27), (.iaddr 1 (.tmp 25) (.tmp 26)), none⟩, ⟨(some 28), (.load false 1 (.tmp 27)), none⟩, ⟨(some 29), (.mv (.tmp 1)), none⟩, ⟨(some 30), (.mv (.tmp 6)), none⟩, ⟨(some 31), (.iaddr 1 (.tmp 29) (.tmp 30)), none⟩, ⟨(some 32), (.load false 1 (.tmp 31)), none⟩, ⟨(some 33), (.bin .add (.tmp 28) (.tmp 32)), none⟩, ⟨(some 34), (.iaddr 1 (.tmp 25) (.tmp 26)), none⟩]
abbrev A89c10 : ACode := (.dreg A89d9 [[], [], [0, 1], [0, 1, 2], [], [], [4, 5], [4, 5, 6], [0, 1, 2, 3, 4, 5, 6, 7], [0, 1, 2, 3, 4, 5, 6, 7, 8], [0, 1, 2, 3, 4, 5, 6, 7, 8, 9]] [0, 1, 5, 6, 7])
abbrev A89r11 : List AIns := [⟨(some 20), (.mv (.tmp 0)), none⟩, ⟨(some 21), (.mv (.tmp 7)), none⟩, ⟨(some 22), (.iaddr 5 (.tmp 20) (.tmp 21)), none⟩, ⟨(some 23), (.faddr 0 (.tmp 22)), none⟩, ⟨(some 24), (.load false 1 (.tmp 23)), none⟩, ⟨(some 7), (.mv (.tmp 24)), none⟩]
abbrev A89l7 : ACode := (.seq (.seq (.reg A89r8 [0, 1, 5, 6, 7, 19]) (.cond (.tmp 19) [0, 1, 5, 6, 7] .skip [0, 1, 5, 6] (.exit 2))) (.seq (.block 3 A89c10) (.reg A89r11 [0, 1, 5, 6, 7])))
abbrev A89r12 : List AIns := [⟨(some 15), (.mv (.tmp 6)), none⟩, ⟨(some 16), (.bin .add (.tmp 15) (.cst (.int .i64 1))), none⟩, ⟨(some 6), (.mv (.tmp 16)), none⟩]
abbrev A89l4 : ACode := (.seq (.seq (.reg A89r5 [0, 1, 5, 6, 14]) (.cond (.tmp 14) [0, 1, 5, 6] .skip [5] (.exit 0))) (.seq (.block 1 (.seq (.reg A89r6 [0, 1, 5, 6, 7]) (.block 2 (.loop A89l7)))) (.reg A89r12 [0, 1, 5, 6])))
abbrev A89r13 : List AIns := [⟨(some 35), (.mv (.tmp 5)), none⟩, ⟨(some 4), (.mv (.tmp 35)), none⟩]
def A89 : AFun := ⟨36, 2, [(.tmp 4)], (.seq (.reg A89r1 [0, 1]) (.seq (.reg A89r2 [0, 1, 5]) (.seq (.seq (.reg A89r3 [0, 1, 5, 6]) (.block 0 (.loop A89l4))) (.seq (.reg A89r13 [4]) .ret))))⟩
theorem A89c : compF Try.prog Try.f89 = some A89 := by kernel_rfl
theorem A89k : Callable Try.prog 89 := fun a w => Try.call89 a w
theorem A89p {ds : List D} {r : D} (hl : ds.length ≤ A89.nt) (hw : W Try.prog A89.code (Fin A89.results r) ⟨argEnv 0 ds, fun _ => none⟩) : PCon Try.prog 89 ds r := pcon_of_W mixed Try.func89 A89k A89c hl hw
/- estovers/generations.all -/
/- slices.Clone[[]int,int] -/
/- slices.Index[[]int,int] -/
abbrev A92r1 : List AIns := [⟨(some 4), (.mv (.cst (.int .i64 0))), none⟩]
abbrev A92r2 : List AIns := [⟨(some 6), (.mv (.tmp 0)), none⟩, ⟨(some 7), (.len (.tmp 6)), none⟩, ⟨(some 8), (.mv (.cst (.int .i64 0))), none⟩]
abbrev A92r4 : List AIns := [⟨(some 9), (.bin .lss (.tmp 8) (.tmp 7)), none⟩]
abbrev A92r5 : List AIns := [⟨(some 10), (.mv (.tmp 8)), none⟩, ⟨(some 5), (.mv (.tmp 10)), none⟩]
abbrev A92r6 : List AIns := [⟨(some 11), (.mv (.tmp 1)), none⟩, ⟨(some 12), (.mv (.tmp 0)), none⟩, ⟨(some 13), (.mv (.tmp 5)), none⟩, ⟨(some 14), (.iaddr 1 (.tmp 12) (.tmp 13)), none⟩, ⟨(some 15), (.load false 1 (.tmp 14)), none⟩, ⟨(some 16), (.bin .eql (.tmp 11) (.tmp 15)), none⟩]
abbrev A92r7 : List AIns := [⟨(some 17), (.mv (.tmp 5)), none⟩, ⟨(some 4), (.mv (.tmp 17)), none⟩]
abbrev A92c8 : ACode := (.seq (.reg A92r5 [0, 1, 5, 7, 8]) (.seq (.reg A92r6 [0, 1, 5, 7, 8, 16]) (.cond (.tmp 16) [5] (.seq (.reg A92r7 [4]) .ret) [0, 1, 7, 8] .skip)))
abbrev A92r9 : List AIns := [⟨(some 18), (.bin .add (.tmp 8) (.cst (.int .i64 1))), none⟩, ⟨(some 8), (.mv (.tmp 18)), none⟩]
abbrev A92l3 : ACode := (.seq (.reg A92r4 [0, 1, 7, 8, 9]) (.seq (.cond (.tmp 9) [0, 1, 7, 8] .skip [] (.exit 0)) (.seq (.block 1 A92c8) (.reg A92r9 [0, 1, 7, 8]))))
abbrev A92r10 : List AIns := [⟨(some 4), (.mv (.cst (.int .i64 (-1)))), none⟩]
def A92 : AFun := ⟨19, 2, [(.tmp 4)], (.seq (.reg A92r1 [0, 1]) (.seq (.seq (.reg A92r2 [0, 1, 7, 8]) (.block 0 (.loop A92l3))) (.seq (.reg A92r10 [4]) .ret)))⟩
theorem A92c : compF Try.prog Try.f92 = some A92 := by kernel_rfl
theorem A92k : Callable Try.prog 92 := fun a w => Try.call92 a w
theorem A92p {ds : List D} {r : D} (hl : ds.length ≤ A92.nt) (hw : W Try.prog A92.code (Fin A92.results r) ⟨argEnv 0 ds, fun _ => none⟩) : PCon Try.prog 92 ds r := pcon_of_W mixed Try.func92 A92k A92c hl hw
/- estovers/generations.all$1 -/
end Go.Proofs.Ytfdfmbmhefckaaa
