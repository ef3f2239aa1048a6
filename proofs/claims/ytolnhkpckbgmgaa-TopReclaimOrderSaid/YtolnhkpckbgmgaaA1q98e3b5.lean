import Derived.Test.YtolnhkpckbgmgaaAmS
import Derived.Test.YtolnhkpckbgmgaaRows
import Derived.Test.YtolnhkpckbgmgaaV3q565351
import Derived.Test.YtolnhkpckbgmgaaAmZ3q994adf
import Derived.Lib.AppendZerosOnto
import Derived.Lib.AppendZeros
import Derived.Lib.Walk
import Derived.Lib.SliceRun
import Derived.Test.YtolnhkpckbgmgaaAmY
section
/- The compiled functions of this seat, in named pieces, each with the proof that it is what the compiler gives of the model's code. -/
set_option linter.unusedSimpArgs false
set_option linter.unusedVariables false
namespace Go.Proofs.Ytolnhkpckbgmgaa
open Go.AM
set_option maxRecDepth 100000
theorem mixed : Try.prog.follows .mixedOrders = true := by kernel_rfl
/- estovers/estoverstop.TopReclaimOrder -/
abbrev A3r1 : List AIns := [⟨(some 4), (.mv (.cst (.bool false))), none⟩]
abbrev A3r2 : List AIns := [⟨(some 26), (.call (.fnc 4) []), none⟩, ⟨(some 27), (.un .not (.tmp 26)), none⟩, ⟨(some 28), (.mv (.tmp 27)), none⟩, ⟨(some 29), (.mv (.tmp 0)), (some (28, false))⟩, ⟨(some 30), (.len (.tmp 29)), (some (28, false))⟩, ⟨(some 31), (.bin .gtr (.tmp 30) (.cst (.int .i64 40))), (some (28, false))⟩, ⟨(some 32), (.pick (.tmp 28) (.cst (.bool true)) (.tmp 31)), none⟩, ⟨(some 33), (.mv (.tmp 32)), none⟩, ⟨(some 34), (.mv (.tmp 1)), (some (33, false))⟩, ⟨(some 35), (.len (.tmp 34)), (some (33, false))⟩, ⟨(some 36), (.bin .gtr (.tmp 35) (.cst (.int .i64 40))), (some (33, false))⟩, ⟨(some 37), (.pick (.tmp 33) (.cst (.bool true)) (.tmp 36)), none⟩]
abbrev A3r3 : List AIns := [⟨(some 38), (.call (.fnc 4) []), none⟩, ⟨(some 4), (.mv (.tmp 38)), none⟩]
abbrev A3r4 : List AIns := [⟨(some 39), (.call (.fnc 5) []), none⟩, ⟨(some 5), (.mv (.tmp 39)), none⟩]
abbrev A3r5 : List AIns := [⟨(some 6), (.alloc ((.bool false) :: (.bool false) :: (.bool false) :: (.bool false) :: (.bool false) :: (.bool false) :: (.bool false) :: (.bool false) :: (.bool false) :: (.bool false) :: (.bool false) :: (.bool false) :: (.bool false) :: (.bool false) :: (.bool false) :: (.bool false) :: (.bool false) :: (.bool false) :: (.bool false) :: (.bool false) :: (.bool false) :: (.bool false) :: (.bool false) :: (.bool false) :: (.bool false) :: (.bool false) :: (.bool false) :: (.bool false) :: (.bool false) :: (.bool false) :: (.bool false) :: (.bool false) :: (.bool false) :: (.bool false) :: (.bool false) :: (.bool false) :: (.bool false) :: (.bool false) :: (.bool false) :: (.bool false) :: (.bool false) :: (.bool false) :: (.bool false) :: (.bool false) :: (.bool false) :: (.bool false) :: (.bool false) :: (.bool false) :: (.bool false) :: (.bool false) :: (.bool false) :: (.bool false) :: (.bool false) :: (.bool false) :: (.bool false) :: (.bool false) :: (.bool false) :: (.bool false) :: (.bool false) :: (.bool false) :: (.bool false) :: (.bool false) :: (.bool false) :: (.bool false) :: (.bool false) :: (.bool false) :: (.bool false) :: (.bool false) :: (.bool false) :: (.bool false) :: (.bool false) :: (.bool false) :: (.bool false) :: (.bool false) :: (.bool false) :: (.bool false) :: (.bool false) :: (.bool false) :: (.bool false) :: (.bool false) :: (.bool false) :: (.bool false) :: (.bool false) :: (.bool false) :: (.bool false) :: (.bool false) :: (.bool false) :: (.bool false) :: (.bool false) :: (.bool false) :: (.bool false) :: (.bool false) :: (.bool false) :: (.bool false) :: (.bool false) :: (.bool false) :: (.bool false) :: (.bool false) :: (.bool false) :: (.bool false) :: (.bool false) :: (.bool false) :: (.bool false) :: (.bool false) :: (.bool false) :: (.bool false) :: (.bool false) :: (.bool false) :: (.bool false) :: (.bool false) :: (.bool false) :: (.bool false) :: (.bool false) :: (.bool false) :: (.bool false) :: (.bool false) :: (.bool false) :: (.bool false) :: (.bool false) :: (.bool false) :: (.bool false) :: (.bool false) :: (.bool false) :: (.bool false) :: (.bool false) :: (.bool false) :: (.bool false) :: (.bool false) :: (.bool false) :: (.bool false) :: (.bool false) :: (.bool false) :: (.bool false) :: (.bool false) :: (.bool false) :: (.bool false) :: (.bool false) :: (.bool false) :: (.bool false) :: (.bool false) :: (.bool false) :: (.bool false) :: (.bool false) :: (.bool false) :: (.bool false) :: (.bool false) :: (.bool false) :: (.bool false) :: (.bool false) :: (.bool false) :: (.bool false) :: (.bool false) :: (.bool false) :: (.bool false) :: (.bool false) :: (.bool false) :: (.bool false) :: (.bool false) :: (.bool false) :: (.bool false) :: (.bool false) :: (.bool false) :: (.bool false) :: (.bool false) :: (.bool false) :: (.bool false) :: (.bool false) :: (.bool false) :: (.bool false) :: (.bool false) :: (.bool false) :: (.bool false) :: (.bool false) :: (.bool false) :: (.bool false) :: (.bool false) :: (.bool false) :: (.bool false) :: (.bool false) :: (.bool false) :: (.bool false) :: (.bool false) :: (.bool false) :: (.bool false) :: (.bool false) :: (.bool false) :: (.bool false) :: (.bool false) :: (.bool false) :: (.bool false) :: (.bool false) :: (.bool false) :: (.bool false) :: (.bool false) :: (.bool false) :: (.bool false) :: (.bool false) :: (.bool false) :: (.bool false) :: (.bool false) :: (.bool false) :: (.bool false) :: (.bool false) :: (.bool false) :: (.bool false) :: (.bool false) :: (.bool false) :: (.bool false) :: (.bool false) :: (.bool false) :: (.bool false) :: (.bool false) :: (.bool false) :: (.bool false) :: (.bool false) :: (.bool false) :: (.bool false) :: (.bool false) :: (.bool false) :: (.bool false) :: (.bool false) :: (.bool false) :: (.bool false) :: (.bool false) :: (.bool false) :: (.bool false) :: (.bool false) :: (.bool false) :: (.bool false) :: (.bool false) :: (.bool false) :: (.bool false) :: (.bool false) :: (.bool false) :: (.bool false) :: (.bool false) :: (.bool false) :: (.bool false) :: (.bool false) :: (.bool false) :: (.bool false) :: (.bool false) :: (.bool false) :: (.bool false) :: (.bool false) :: (.bool false) :: (.bool false) :: (.bool false) :: (.bool false) :: (.bool false) :: (.bool false) :: (.bool false) :: (.bool false) :: (.bool false) :: (.bool false) :: (.bool false) :: [])), none⟩, ⟨(some 7), (.alloc ((.bool false) :: (.bool false) :: (.bool false) :: (.bool false) :: (.bool false) :: (.bool false) :: (.bool false) :: (.bool false) :: (.bool false) :: (.bool false) :: (.bool false) :: (.bool false) :: (.bool false) :: (.bool false) :: (.bool false) :: (.bool false) :: (.bool false) :: (.bool false) :: (.bool false) :: (.bool false) :: (.bool false) :: (.bool false) :: (.bool false) :: (.bool false) :: (.bool false) :: (.bool false) :: (.bool false) :: (.bool false) :: (.bool false) :: (.bool false) :: (.bool false) :: (.bool false) :: (.bool false) :: (.bool false) :: (.bool false) :: (.bool false) :: (.bool false) :: (.bool false) :: (.bool false) :: (.bool false) :: (.bool false) :: (.bool false) :: (.bool false) :: (.bool false) :: (.bool false) :: (.bool false) :: (.bool false) :: (.bool false) :: (.bool false) :: (.bool false) :: (.bool false) :: (.bool false) :: (.bool false) :: (.bool false) :: (.bool false) :: (.bool false) :: (.bool false) :: (.bool false) :: (.bool false) :: (.bool false) :: (.bool false) :: (.bool false) :: (.bool false) :: (.bool false) :: (.bool false) :: (.bool false) :: (.bool false) :: (.bool false) :: (.bool false) :: (.bool false) :: (.bool false) :: (.bool false) :: (.bool false) :: (.bool false) :: (.bool false) :: (.bool false) :: (.bool false) :: (.bool false) :: (.bool false) :: (.bool false) :: (.bool false) :: (.bool false) :: (.bool false) :: (.bool false) :: (.bool false) :: (.bool false) :: (.bool false) :: (.bool false) :: (.bool false) :: (.bool false) :: (.bool false) :: (.bool false) :: (.bool false) :: (.bool false) :: (.bool false) :: (.bool false) :: (.bool false) :: (.bool false) :: (.bool false) :: (.bool false) :: (.bool false) :: (.bool false) :: (.bool false) :: (.bool false) :: (.bool false) :: (.bool false) :: (.bool false) :: (.bool false) :: (.bool false) :: (.bool false) :: (.bool false) :: (.bool false) :: (.bool false) :: (.bool false) :: (.bool false) :: (.bool false) :: (.bool false) :: (.bool false) :: (.bool false) :: (.bool false) :: (.bool false) :: (.bool false) :: (.bool false) :: (.bool false) :: (.bool false) :: (.bool false) :: (.bool false) :: (.bool false) :: (.bool false) :: (.bool false) :: (.bool false) :: (.bool false) :: (.bool false) :: (.bool false) :: (.bool false) :: (.bool false) :: (.bool false) :: (.bool false) :: (.bool false) :: (.bool false) :: (.bool false) :: (.bool false) :: (.bool false) :: (.bool false) :: (.bool false) :: (.bool false) :: (.bool false) :: (.bool false) :: (.bool false) :: (.bool false) :: (.bool false) :: (.bool false) :: (.bool false) :: (.bool false) :: (.bool false) :: (.bool false) :: (.bool false) :: (.bool false) :: (.bool false) :: (.bool false) :: (.bool false) :: (.bool false) :: (.bool false) :: (.bool false) :: (.bool false) :: (.bool false) :: (.bool false) :: (.bool false) :: (.bool false) :: (.bool false) :: (.bool false) :: (.bool false) :: (.bool false) :: (.bool false) :: (.bool false) :: (.bool false) :: (.bool false) :: (.bool false) :: (.bool false) :: (.bool false) :: (.bool false) :: (.bool false) :: (.bool false) :: (.bool false) :: (.bool false) :: (.bool false) :: (.bool false) :: (.bool false) :: (.bool false) :: (.bool false) :: (.bool false) :: (.bool false) :: (.bool false) :: (.bool false) :: (.bool false) :: (.bool false) :: (.bool false) :: (.bool false) :: (.bool false) :: (.bool false) :: (.bool false) :: (.bool false) :: (.bool false) :: (.bool false) :: (.bool false) :: (.bool false) :: (.bool false) :: (.bool false) :: (.bool false) :: (.bool false) :: (.bool false) :: (.bool false) :: (.bool false) :: (.bool false) :: (.bool false) :: (.bool false) :: (.bool false) :: (.bool false) :: (.bool false) :: (.bool false) :: (.bool false) :: (.bool false) :: (.bool false) :: (.bool false) :: (.bool false) :: (.bool false) :: (.bool false) :: (.bool false) :: (.bool false) :: (.bool false) :: (.bool false) :: (.bool false) :: (.bool false) :: (.bool false) :: (.bool false) :: (.bool false) :: (.bool false) :: (.bool false) :: (.bool false) :: (.bool false) :: (.bool false) :: (.bool false) :: (.bool false) :: (.bool false) :: (.bool false) :: (.bool false) :: (.bool false) :: (.bool false) :: (.bool false) :: (.bool false) :: (.bool false) :: (.bool false) :: (.bool false) :: (.bool false) :: (.bool false) :: (.bool false) :: [])), none⟩]
abbrev A3r6 : List AIns := [⟨(some 8), (.mv (.cst (.int .i64 0))), none⟩]
abbrev A3r7 : List AIns := [⟨(some 40), (.mv (.tmp 0)), none⟩, ⟨(some 41), (.len (.tmp 40)), none⟩, ⟨(some 42), (.mv (.cst (.int .i64 0))), none⟩]
abbrev A3r9 : List AIns := [⟨(some 43), (.bin .lss (.tmp 42) (.tmp 41)), none⟩]
abbrev A3r10 : List AIns := [⟨(some 44), (.mv (.tmp 42)), none⟩, ⟨(some 45), (.iaddr 1 (.tmp 40) (.tmp 42)), none⟩, ⟨(some 46), (.load false 1 (.tmp 45)), none⟩, ⟨(some 9), (.mv (.tmp 44)), none⟩, ⟨(some 10), (.mv (.tmp 46)), none⟩]
abbrev A3r11 : List AIns := [⟨(some 47), (.mv (.tmp 10)), none⟩, ⟨(some 48), (.iaddrA 256 1 (.tmp 6) (.tmp 47)), none⟩, ⟨(some 49), (.load false 1 (.tmp 48)), none⟩]
abbrev A3r12 : List AIns := [⟨(some 51), (.mv (.tmp 5)), none⟩, ⟨(some 52), (.mv (.tmp 9)), none⟩, ⟨(some 53), (.bin .rem (.tmp 52) (.cst (.int .i64 4))), none⟩, ⟨(some 54), (.mv (.tmp 10)), none⟩, ⟨(some 55), (.conv .i64 (.tmp 54)), none⟩, ⟨(some 56), (.call (.fnc 6) [(.tmp 51), (.tmp 53), (.tmp 55)]), none⟩, ⟨(some 50), (.mv (.tmp 56)), none⟩, ⟨(some 57), (.extract 0 (.tmp 50)), none⟩, ⟨(some 58), (.extract 1 (.tmp 50)), none⟩, ⟨(some 11), (.mv (.tmp 57)), none⟩, ⟨(some 12), (.mv (.tmp 58)), none⟩]
abbrev A3r13 : List AIns := [⟨(some 59), (.mv (.tmp 12)), none⟩, ⟨(some 60), (.bin .neq (.tmp 59) (.cst (.int .i64 0))), none⟩]
abbrev A3r14 : List AIns := [⟨(some 4), (.mv (.cst (.bool false))), none⟩]
abbrev A3r15 : List AIns := [⟨(some 61), (.mv (.tmp 10)), none⟩, ⟨(some 62), (.mv (.tmp 11)), none⟩, ⟨(some 5), (.mv (.tmp 62)), none⟩, ⟨(some 63), (.iaddrA 256 1 (.tmp 6) (.tmp 61)), none⟩, ⟨none, (.store 1 (.tmp 63) (.cst (.bool true))), none⟩]
abbrev A3r16 : List AIns := [⟨(some 64), (.mv (.tmp 8)), none⟩, ⟨(some 65), (.bin .add (.tmp 64) (.cst (.int .i64 1))), none⟩, ⟨(some 8), (.mv (.tmp 65)), none⟩]
abbrev A3c17 : ACode := (.seq (.reg A3r10 [1, 5, 6, 7, 8, 9, 10, 40, 41, 42]) (.seq (.seq (.reg A3r11 [1, 5, 6, 7, 8, 9, 10, 40, 41, 42, 49]) (.cond (.tmp 49) [1, 5, 6, 7, 8, 40, 41, 42] (.exit 1) [1, 5, 6, 7, 8, 9, 10, 40, 41, 42] .skip)) (.seq (.reg A3r12 [1, 6, 7, 8, 10, 11, 12, 40, 41, 42]) (.seq (.seq (.reg A3r13 [1, 6, 7, 8, 10, 11, 40, 41, 42, 60]) (.cond (.tmp 60) [] (.seq (.reg A3r14 [4]) .ret) [1, 6, 7, 8, 10, 11, 40, 41, 42] .skip)) (.seq (.reg A3r15 [1, 5, 6, 7, 8, 40, 41, 42]) (.reg A3r16 [1, 5, 6, 7, 8, 40, 41, 42]))))))
abbrev A3r18 : List AIns := [⟨(some 66), (.bin .add (.tmp 42) (.cst (.int .i64 1))), none⟩, ⟨(some 42), (.mv (.tmp 66)), none⟩]
abbrev A3l8 : ACode := (.seq (.reg A3r9 [1, 5, 6, 7, 8, 40, 41, 42, 43]) (.seq (.cond (.tmp 43) [1, 5, 6, 7, 8, 40, 41, 42] .skip [1, 5, 6, 7, 8] (.exit 0)) (.seq (.block 1 A3c17) (.reg A3r18 [1, 5, 6, 7, 8, 40, 41, 42]))))
abbrev A3r19 : List AIns := [⟨(some 13), (.mv (.cst .nil)), none⟩]
abbrev A3r20 : List AIns := [⟨(some 67), (.mv (.tmp 1)), none⟩, ⟨(some 68), (.len (.tmp 67)), none⟩, ⟨(some 69), (.mv (.cst (.int .i64 0))), none⟩]
abbrev A3r22 : List AIns := [⟨(some 70), (.bin .lss (.tmp 69) (.tmp 68)), none⟩]
abbrev A3r23 : List AIns := [⟨(some 71), (.iaddr 1 (.tmp 67) (.tmp 69)), none⟩, ⟨(some 72), (.load false 1 (.tmp 71)), none⟩, ⟨(some 15), (.mv (.tmp 72)), none⟩]
abbrev A3r24 : List AIns := [⟨(some 73), (.mv (.tmp 15)), none⟩, ⟨(some 74), (.iaddrA 256 1 (.tmp 6) (.tmp 73)), none⟩, ⟨(some 75), (.load false 1 (.tmp 74)), none⟩, ⟨(some 76), (.mv (.tmp 75)), none⟩, ⟨(some 77), (.mv (.tmp 15)), (some (76, true))⟩, ⟨(some 78), (.iaddrA 256 1 (.tmp 7) (.tmp 77)), (some (76, true))⟩, ⟨(some 79), (.load false 1 (.tmp 78)), (some (76, true))⟩, ⟨(some 80), (.un .not (.tmp 79)), (some (76, true))⟩, ⟨(some 81), (.pick (.tmp 76) (.tmp 80) (.cst (.bool false))), none⟩]
abbrev A3r25 : List AIns := [⟨(some 82), (.mv (.tmp 15)), none⟩, ⟨(some 83), (.iaddrA 256 1 (.tmp 7) (.tmp 82)), none⟩, ⟨none, (.store 1 (.tmp 83) (.cst (.bool true))), none⟩]
abbrev A3r26 : List AIns := [⟨(some 84), (.mv (.tmp 13)), none⟩, ⟨(some 85), (.mv (.tmp 15)), none⟩, ⟨(some 86), (.conv .i64 (.tmp 85)), none⟩, ⟨(some 87), (.buildS 1 [(.int .i64 0)] 1 [(0, (1, (.tmp 86)))]), none⟩, ⟨(some 88), (.append 1 8 (.tmp 84) (.tmp 87)), none⟩, ⟨(some 13), (.mv (.tmp 88)), none⟩]
abbrev A3c27 : ACode := (.seq (.reg A3r25 [5, 6, 7, 8, 13, 15, 67, 68, 69]) (.reg A3r26 [5, 6, 7, 8, 13, 67, 68, 69]))
abbrev A3c28 : ACode := (.seq (.reg A3r23 [5, 6, 7, 8, 13, 15, 67, 68, 69]) (.seq (.reg A3r24 [5, 6, 7, 8, 13, 15, 67, 68, 69, 81]) (.cond (.tmp 81) [5, 6, 7, 8, 13, 15, 67, 68, 69] A3c27 [5, 6, 7, 8, 13, 67, 68, 69] .skip)))
abbrev A3r29 : List AIns := [⟨(some 89), (.bin .add (.tmp 69) (.cst (.int .i64 1))), none⟩, ⟨(some 69), (.mv (.tmp 89)), none⟩]
abbrev A3l21 : ACode := (.seq (.reg A3r22 [5, 6, 7, 8, 13, 67, 68, 69, 70]) (.seq (.cond (.tmp 70) [5, 6, 7, 8, 13, 67, 68, 69] .skip [5, 6, 7, 8, 13] (.exit 2)) (.seq (.block 3 A3c28) (.reg A3r29 [5, 6, 7, 8, 13, 67, 68, 69]))))
abbrev A3r30 : List AIns := [⟨(some 91), (.mv (.tmp 5)), none⟩, ⟨(some 92), (.mv (.tmp 13)), none⟩, ⟨(some 93), (.call (.fnc 7) [(.tmp 91), (.tmp 92)]), none⟩, ⟨(some 90), (.mv (.tmp 93)), none⟩, ⟨(some 94), (.extract 0 (.tmp 90)), none⟩, ⟨(some 95), (.extract 1 (.tmp 90)), none⟩, ⟨(some 5), (.mv (.tmp 94)), none⟩, ⟨(some 16), (.mv (.tmp 95)), none⟩]
abbrev A3r31 : List AIns := [⟨(some 96), (.mv (.tmp 16)), none⟩, ⟨(some 97), (.bin .neq (.tmp 96) (.cst (.int .i64 0))), none⟩]
abbrev A3r32 : List AIns := [⟨(some 4), (.mv (.cst (.bool false))), none⟩]
abbrev A3r33 : List AIns := [⟨(some 99), (.mv (.tmp 5)), none⟩, ⟨(some 100), (.call (.fnc 8) [(.tmp 99)]), none⟩, ⟨(some 98), (.mv (.tmp 100)), none⟩, ⟨(some 101), (.extract 0 (.tmp 98)), none⟩, ⟨(some 102), (.extract 1 (.tmp 98)), none⟩, ⟨(some 17), (.mv (.tmp 101)), none⟩, ⟨(some 16), (.mv (.tmp 102)), none⟩]
abbrev A3r34 : List AIns := [⟨(some 103), (.mv (.tmp 16)), none⟩, ⟨(some 104), (.bin .neq (.tmp 103) (.cst (.int .i64 0))), none⟩, ⟨(some 105), (.mv (.tmp 104)), none⟩, ⟨(some 106), (.mv (.tmp 17)), (some (105, false))⟩, ⟨(some 107), (.len (.tmp 106)), (some (105, false))⟩, ⟨(some 108), (.mv (.tmp 8)), (some (105, false))⟩, ⟨(some 109), (.bin .neq (.tmp 107) (.tmp 108)), (some (105, false))⟩, ⟨(some 110), (.pick (.tmp 105) (.cst (.bool true)) (.tmp 109)), none⟩]
abbrev A3r35 : List AIns := [⟨(some 4), (.mv (.cst (.bool false))), none⟩]
abbrev A3r36 : List AIns := [⟨(some 18), (.mv (.cst .nil)), none⟩]
abbrev A3r37 : List AIns := [⟨(some 111), (.mv (.cst (.int .i64 0))), none⟩]
abbrev A3r39 : List AIns := [⟨(some 112), (.bin .lss (.tmp 111) (.cst (.int .i64 256))), none⟩]
abbrev A3r40 : List AIns := [⟨(some 113), (.mv (.tmp 111)), none⟩, ⟨(some 19), (.mv (.tmp 113)), none⟩]
abbrev A3r41 : List AIns := [⟨(some 114), (.mv (.tmp 19)), none⟩, ⟨(some 115), (.iaddrA 256 1 (.tmp 6) (.tmp 114)), none⟩, ⟨(some 116), (.load false 1 (.tmp 115)), none⟩]
abbrev A3r42 : List AIns := [⟨(some 117), (.mv (.tmp 19)), none⟩, ⟨(some 118), (.build [(.int .i64 0), (.int .i64 0), (.int .i64 0), (.int .i64 0), (.int .i64 0), (.bool false), (.bool false)] [(0, (1, (.tmp 117))), (2, (1, (.cst (.int .i64 (-1))))), (4, (1, (.cst (.int .i64 (-1))))), (5, (1, (.cst (.bool true))))]), none⟩, ⟨(some 20), (.alloc [(.int .i64 0), (.int .i64 0), (.int .i64 0), (.int .i64 0), (.int .i64 0), (.bool false), (.bool false)]), none⟩, ⟨none, (.store 7 (.tmp 20) (.tmp 118)), none⟩]
abbrev A3r43 : List AIns := [⟨(some 119), (.mv (.tmp 17)), none⟩, ⟨(some 120), (.len (.tmp 119)), none⟩, ⟨(some 121), (.mv (.cst (.int .i64 0))), none⟩]
abbrev A3r45 : List AIns := [⟨(some 122), (.bin .lss (.tmp 121) (.tmp 120)), none⟩]
abbrev A3r46 : List AIns := [⟨(some 123), (.mv (.tmp 121)), none⟩, ⟨(some 21), (.mv (.tmp 123)), none⟩]
abbrev A3r47 : List AIns := [⟨(some 124), (.mv (.tmp 17)), none⟩, ⟨(some 125), (.mv (.tmp 21)), none⟩, ⟨(some 126), (.iaddr 1 (.tmp 124) (.tmp 125)), none⟩, ⟨(some 127), (.load false 1 (.tmp 126)), none⟩, ⟨(some 128), (.mv (.tmp 19)), none⟩, ⟨(some 129), (.bin .eql (.tmp 127) (.tmp 128)), none⟩]
abbrev A3r48 : List AIns := [⟨(some 130), (.mv (.tmp 21)), none⟩, ⟨(some 131), (.faddr 2 (.tmp 20)), none⟩, ⟨none, (.store 1 (.tmp 131) (.tmp 130)), none⟩]
abbrev A3c49 : ACode := (.seq (.reg A3r46 [6, 7, 8, 17, 18, 19, 20, 21, 111, 120, 121]) (.seq (.reg A3r47 [6, 7, 8, 17, 18, 19, 20, 21, 111, 120, 121, 129]) (.cond (.tmp 129) [6, 7, 8, 17, 18, 19, 20, 21, 111, 120, 121] (.reg A3r48 [6, 7, 8, 17, 18, 19, 20, 111, 120, 121]) [6, 7, 8, 17, 18, 19, 20, 111, 120, 121] .skip)))
abbrev A3r50 : List AIns := [⟨(some 132), (.bin .add (.tmp 121) (.cst (.int .i64 1))), none⟩, ⟨(some 121), (.mv (.tmp 132)), none⟩]
abbrev A3l44 : ACode := (.seq (.reg A3r45 [6, 7, 8, 17, 18, 19, 20, 111, 120, 121, 122]) (.seq (.cond (.tmp 122) [6, 7, 8, 17, 18, 19, 20, 111, 120, 121] .skip [6, 7, 8, 17, 18, 20, 111] (.exit 6)) (.seq (.block 7 A3c49) (.reg A3r50 [6, 7, 8, 17, 18, 19, 20, 111, 120, 121]))))
abbrev A3r51 : List AIns := [⟨(some 133), (.mv (.tmp 18)), none⟩, ⟨(some 134), (.load true 7 (.tmp 20)), none⟩, ⟨(some 135), (.buildS 7 [(.int .i64 0), (.int .i64 0), (.int .i64 0), (.int .i64 0), (.int .i64 0), (.bool false), (.bool false)] 1 [(0, (7, (.tmp 134)))]), none⟩, ⟨(some 136), (.append 7 48 (.tmp 133) (.tmp 135)), none⟩, ⟨(some 18), (.mv (.tmp 136)), none⟩]
abbrev A3c52 : ACode := (.seq (.reg A3r42 [6, 7, 8, 17, 18, 19, 20, 111]) (.seq (.seq (.reg A3r43 [6, 7, 8, 17, 18, 19, 20, 111, 120, 121]) (.block 6 (.loop A3l44))) (.reg A3r51 [6, 7, 8, 17, 18, 111])))
abbrev A3c53 : ACode := (.seq (.reg A3r40 [6, 7, 8, 17, 18, 19, 111]) (.seq (.reg A3r41 [6, 7, 8, 17, 18, 19, 111, 116]) (.cond (.tmp 116) [6, 7, 8, 17, 18, 19, 111] A3c52 [6, 7, 8, 17, 18, 111] .skip)))
abbrev A3r54 : List AIns := [⟨(some 137), (.bin .add (.tmp 111) (.cst (.int .i64 1))), none⟩, ⟨(some 111), (.mv (.tmp 137)), none⟩]
abbrev A3l38 : ACode := (.seq (.reg A3r39 [6, 7, 8, 17, 18, 111, 112]) (.seq (.cond (.tmp 112) [6, 7, 8, 17, 18, 111] .skip [7, 8, 17, 18] (.exit 4)) (.seq (.block 5 A3c53) (.reg A3r54 [6, 7, 8, 17, 18, 111]))))
abbrev A3r55 : List AIns := [⟨(some 138), (.mv (.tmp 8)), none⟩, ⟨(some 139), (.mv (.tmp 8)), none⟩, ⟨(some 140), (.build [(.int .i64 0), (.int .i64 0), (.int .i64 0), (.int .i64 0), (.int .i64 0)] [(0, (1, (.cst (.int .i64 (-1))))), (1, (1, (.tmp 138))), (4, (1, (.tmp 139)))]), none⟩, ⟨(some 141), (.buildS 5 [(.int .i64 0), (.int .i64 0), (.int .i64 0), (.int .i64 0), (.int .i64 0)] 1 [(0, (5, (.tmp 140)))]), none⟩, ⟨(some 22), (.mv (.tmp 141)), none⟩]
abbrev A3r56 : List AIns := [⟨(some 23), (.mv (.cst (.bool false))), none⟩]
abbrev A3r57 : List AIns := [⟨(some 142), (.mv (.tmp 17)), none⟩, ⟨(some 143), (.len (.tmp 142)), none⟩, ⟨(some 144), (.mv (.cst (.int .i64 0))), none⟩]
abbrev A3r59 : List AIns := [⟨(some 145), (.bin .lss (.tmp 144) (.tmp 143)), none⟩]
abbrev A3r60 : List AIns := [⟨(some 146), (.mv (.tmp 144)), none⟩, ⟨(some 24), (.mv (.tmp 146)), none⟩]
abbrev A3r61 : List AIns := [⟨(some 147), (.mv (.tmp 18)), none⟩, ⟨(some 148), (.mv (.tmp 22)), none⟩, ⟨(some 149), (.call (.fnc 9) [(.tmp 147), (.tmp 148), (.cst (.int .i64 (-1))), (.cst (.bool false))]), none⟩, ⟨(some 25), (.mv (.tmp 149)), none⟩]
abbrev A3d62 : List AIns := [⟨(some 150), (.mv (.tmp 25)), none⟩, ⟨(some 151), (.bin .lss (.tmp 150) (.cst (.int .i64 0))), none⟩, ⟨(some 152), (.mv (.tmp 151)), none⟩, ⟨(some 153), (.mv (.tmp 25)), (some (152, false))⟩, ⟨(some 154), (.mv (.tmp 18)), (some (152, false))⟩, ⟨(some 155), (.len (.tmp 154)), (some (152, false))⟩, ⟨(some 156), (.bin .geq (.tmp 153) (.tmp 155)), (some (152, false))⟩, ⟨(some 157), (.pick (.tmp 152) (.cst (.bool true)) (.tmp 156)), none⟩, ⟨(some 158), (.mv (.tmp 157)), none⟩, ⟨(some 159), (.mv (.tmp 18)), (some (158, false))⟩, ⟨(some 160), (.mv (.tmp 25)), (some (158, false))⟩, ⟨(some 161), (.iaddr 7 (.tmp 159) (.tmp 160)), (some (158, false))⟩, ⟨(some 162), (.faddr 0 (.tmp 161)), (some (158, false))⟩, ⟨(some 163), (.load false 1 (.tmp 162)), (some (158, false))⟩, ⟨(some 164), (.mv (.tmp 17)), (some (158, false))⟩, ⟨(some 165), (.mv (.tmp 24)), (some (158, false))⟩, ⟨(some 166), (.iaddr 1 (.tmp 164) (.tmp 165)), (some (158, false))⟩, ⟨(some 167), (.load false 1 (.tmp 166)), (some (158, false))⟩, ⟨(some 168), (.bin .neq (.tmp 163) (.tmp 167)), (some (158, false))⟩, ⟨(some 169), (.pick (.tmp 158) (.cst (.bool true)) (.tmp 168)), none⟩, ⟨(some 170), (.mv (.tmp 169)), none⟩, ⟨(some 171), (.mv (.tmp 18)), (some (170, false))⟩, ⟨(some 172), (.mv (.tmp 25)), (some (170, false))⟩, ⟨(some 173), (.iaddr 7 (.tmp 171) (.tmp 172)), (some (170, false))⟩, ⟨(some 174), (.faddr 6 (.tmp 173)), (some (170, false))⟩, ⟨(some 175), (.load false 1 (.tmp 174)), (some (170, false))⟩, ⟨(some 176), (.pick (.tmp 170) (.cst (.bool true)) (.tmp 175)), none⟩]
abbrev A3r63 : List AIns := [⟨(some 4), (.mv (.cst (.bool false))), none⟩]
abbrev A3r64 : List AIns := [⟨(some 177), (.mv (.tmp 23)), none⟩, ⟨(some 178), (.mv (.tmp 177)), none⟩, ⟨(some 179), (.mv (.tmp 18)), (some (178, true))⟩, ⟨(some 180), (.mv (.tmp 25)), (some (178, true))⟩, ⟨(some 181), (.iaddr 7 (.tmp 179) (.tmp 180)), (some (178, true))⟩, ⟨(some 182), (.faddr 0 (.tmp 181)), (some (178, true))⟩, ⟨(some 183), (.load false 1 (.tmp 182)), (some (178, true))⟩, ⟨(some 184), (.iaddrA 256 1 (.tmp 7) (.tmp 183)), (some (178, true))⟩, ⟨(some 185), (.load false 1 (.tmp 184)), (some (178, true))⟩, ⟨(some 186), (.un .not (.tmp 185)), (some (178, true))⟩, ⟨(some 187), (.pick (.tmp 178) (.tmp 186) (.cst (.bool false))), none⟩]
abbrev A3r65 : List AIns := [⟨(some 4), (.mv (.cst (.bool false))), none⟩]
abbrev A3r66 : List AIns := [⟨(some 188), (.mv (.tmp 18)), none⟩, ⟨(some 189), (.mv (.tmp 25)), none⟩, ⟨(some 190), (.iaddr 7 (.tmp 188) (.tmp 189)), none⟩, ⟨(some 191), (.faddr 0 (.tmp 190)), none⟩, ⟨(some 192), (.load false 1 (.tmp 191)), none⟩, ⟨(some 193), (.iaddrA 256 1 (.tmp 7) (.tmp 192)), none⟩, ⟨(some 194), (.load false 1 (.tmp 193)), none⟩, ⟨(some 23), (.mv (.tmp 194)), none⟩]
abbrev A3r67 : List AIns := [⟨(some 195), (.mv (.tmp 18)), none⟩, ⟨(some 196), (.mv (.tmp 25)), none⟩, ⟨(some 197), (.iaddr 7 (.tmp 195) (.tmp 196)), none⟩, ⟨(some 198), (.faddr 6 (.tmp 197)), none⟩, ⟨none, (.store 1 (.tmp 198) (.cst (.bool true))), none⟩]
abbrev A3c68 : ACode := (.seq (.reg A3r60 [7, 17, 18, 22, 23, 24, 143, 144]) (.seq (.reg A3r61 [7, 17, 18, 22, 23, 24, 25, 143, 144]) (.seq (.seq (.dreg A3d62 [[], [0], [0, 1], [0, 1, 2], [0, 1, 2], [0, 1, 2, 4], [0, 1, 2, 3, 4, 5], [0, 1, 2, 3, 4, 5, 6], [0, 1, 2, 3, 4, 5, 6, 7], [0, 1, 2, 3, 4, 5, 6, 7, 8], [0, 1, 2, 3, 4, 5, 6, 7, 8], [0, 1, 2, 3, 4, 5, 6, 7, 8, 9, 10], [0, 1, 2, 3, 4, 5, 6, 7, 8, 9, 10, 11], [0, 1, 2, 3, 4, 5, 6, 7, 8, 9, 10, 11, 12], [0, 1, 2, 3, 4, 5, 6, 7, 8], [0, 1, 2, 3, 4, 5, 6, 7, 8], [0, 1, 2, 3, 4, 5, 6, 7, 8, 14, 15], [0, 1, 2, 3, 4, 5, 6, 7, 8, 14, 15, 16], [0, 1, 2, 3, 4, 5, 6, 7, 8, 9, 10, 11, 12, 13, 14, 15, 16, 17], [0, 1, 2, 3, 4, 5, 6, 7, 8, 9, 10, 11, 12, 13, 14, 15, 16, 17, 18], [0, 1, 2, 3, 4, 5, 6, 7, 8, 9, 10, 11, 12, 13, 14, 15, 16, 17, 18, 19], [0, 1, 2, 3, 4, 5, 6, 7, 8, 9, 10, 11, 12, 13, 14, 15, 16, 17, 18, 19, 20], [0, 1, 2, 3, 4, 5, 6, 7, 8, 9, 10, 11, 12, 13, 14, 15, 16, 17, 18, 19, 20], [0, 1, 2, 3, 4, 5, 6, 7, 8, 9, 10, 11, 12, 13, 14, 15, 16, 17, 18, 19, 20, 21, 22], [0, 1, 2, 3, 4, 5, 6, 7, 8, 9, 10, 11, 12, 13, 14, 15, 16, 17, 18, 19, 20, 21, 22, 23], [0, 1, 2, 3, 4, 5, 6, 7, 8, 9, 10, 11, 12, 13, 14, 15, 16, 17, 18, 19, 20, 21, 22, 23, 24], [0, 1, 2, 3, 4, 5, 6, 7, 8, 9, 10, 11, 12, 13, 14, 15, 16, 17, 18, 19, 20, 21, 22, 23, 24, 25]] [7, 17, 18, 22, 23, 25, 143, 144, 176]) (.cond (.tmp 176) [] (.seq (.reg A3r63 [4]) .ret) [7, 17, 18, 22, 23, 25, 143, 144] .skip)) (.seq (.seq (.reg A3r64 [7, 17, 18, 22, 25, 143, 144, 187]) (.cond (.tmp 187) [] (.seq (.reg A3r65 [4]) .ret) [7, 17, 18, 22, 25, 143, 144] .skip)) (.seq (.reg A3r66 [7, 17, 18, 22, 23, 25, 143, 144]) (.reg A3r67 [7, 17, 18, 22, 23, 143, 144]))))))
abbrev A3r69 : List AIns := [⟨(some 199), (.bin .add (.tmp 144) (.cst (.int .i64 1))), none⟩, ⟨(some 144), (.mv (.tmp 199)), none⟩]
abbrev A3l58 : ACode := (.seq (.reg A3r59 [7, 17, 18, 22, 23, 143, 144, 145]) (.seq (.cond (.tmp 145) [7, 17, 18, 22, 23, 143, 144] .skip [18, 22] (.exit 8)) (.seq (.block 9 A3c68) (.reg A3r69 [7, 17, 18, 22, 23, 143, 144]))))
abbrev A3r70 : List AIns := [⟨(some 200), (.mv (.tmp 18)), none⟩, ⟨(some 201), (.mv (.tmp 22)), none⟩, ⟨(some 202), (.call (.fnc 9) [(.tmp 200), (.tmp 201), (.cst (.int .i64 (-1))), (.cst (.bool false))]), none⟩, ⟨(some 203), (.bin .eql (.tmp 202) (.cst (.int .i64 (-1)))), none⟩, ⟨(some 4), (.mv (.tmp 203)), none⟩]
def A3 : AFun := ⟨204, 2, [(.tmp 4)], (.seq (.reg A3r1 [0, 1]) (.seq (.seq (.reg A3r2 [0, 1, 37]) (.cond (.tmp 37) [] (.seq (.reg A3r3 [4]) .ret) [0, 1] .skip)) (.seq (.reg A3r4 [0, 1, 5]) (.seq (.reg A3r5 [0, 1, 5, 6, 7]) (.seq (.reg A3r6 [0, 1, 5, 6, 7, 8]) (.seq (.seq (.reg A3r7 [1, 5, 6, 7, 8, 40, 41, 42]) (.block 0 (.loop A3l8))) (.seq (.reg A3r19 [1, 5, 6, 7, 8, 13]) (.seq (.seq (.reg A3r20 [5, 6, 7, 8, 13, 67, 68, 69]) (.block 2 (.loop A3l21))) (.seq (.reg A3r30 [5, 6, 7, 8, 16]) (.seq (.seq (.reg A3r31 [5, 6, 7, 8, 97]) (.cond (.tmp 97) [] (.seq (.reg A3r32 [4]) .ret) [5, 6, 7, 8] .skip)) (.seq (.reg A3r33 [6, 7, 8, 16, 17]) (.seq (.seq (.reg A3r34 [6, 7, 8, 17, 110]) (.cond (.tmp 110) [] (.seq (.reg A3r35 [4]) .ret) [6, 7, 8, 17] .skip)) (.seq (.reg A3r36 [6, 7, 8, 17, 18]) (.seq (.seq (.reg A3r37 [6, 7, 8, 17, 18, 111]) (.block 4 (.loop A3l38))) (.seq (.reg A3r55 [7, 17, 18, 22]) (.seq (.reg A3r56 [7, 17, 18, 22, 23]) (.seq (.seq (.reg A3r57 [7, 17, 18, 22, 23, 143, 144]) (.block 8 (.loop A3l58))) (.seq (.reg A3r70 [4]) .ret))))))))))))))))))⟩
theorem A3c : compF Try.prog Try.f3 = some A3 := by kernel_rfl
theorem A3k : Callable Try.prog 3 := fun a w => Try.call3 a w
theorem A3p {ds : List D} {r : D} (hl : ds.length ≤ A3.nt) (hw : W Try.prog A3.code (Fin A3.results r) ⟨argEnv 0 ds, fun _ => none⟩) : PCon Try.prog 3 ds r := pcon_of_W mixed Try.func3 A3k A3c hl hw
/- estovers/estoverstop.awake20 -/
abbrev A4r1 : List AIns := [⟨(some 0), (.mv (.cst (.bool false))), none⟩]
abbrev A4r2 : List AIns := [⟨(some 7), (.build [(.int .i64 0), (.int .i64 0), (.int .i64 0), (.int .i64 0), (.int .i64 0)] [(0, (1, (.cst (.int .i64 (-1))))), (1, (1, (.cst (.int .i64 3)))), (4, (1, (.cst (.int .i64 9))))]), none⟩, ⟨(some 8), (.build [(.int .i64 0), (.int .i64 0), (.int .i64 0), (.int .i64 0), (.int .i64 0)] [(1, (1, (.cst (.int .i64 3)))), (2, (1, (.cst (.int .i64 2)))), (4, (1, (.cst (.int .i64 9))))]), none⟩, ⟨(some 9), (.buildS 5 [(.int .i64 0), (.int .i64 0), (.int .i64 0), (.int .i64 0), (.int .i64 0)] 2 [(0, (5, (.tmp 7))), (5, (5, (.tmp 8)))]), none⟩, ⟨(some 1), (.mv (.tmp 9)), none⟩]
abbrev A4r3 : List AIns := [⟨(some 10), (.mv (.tmp 1)), none⟩, ⟨(some 11), (.call (.fnc 10) [(.tmp 10)]), none⟩, ⟨(some 2), (.mv (.tmp 11)), none⟩]
abbrev A4r4 : List AIns := [⟨(some 13), (.mv (.tmp 1)), none⟩, ⟨(some 14), (.call (.fnc 11) [(.tmp 13)]), none⟩, ⟨(some 12), (.mv (.tmp 14)), none⟩, ⟨(some 15), (.extract 0 (.tmp 12)), none⟩, ⟨(some 16), (.extract 1 (.tmp 12)), none⟩, ⟨(some 3), (.mv (.tmp 15)), none⟩, ⟨(some 4), (.mv (.tmp 16)), none⟩]
abbrev A4r5 : List AIns := [⟨(some 18), (.call (.fnc 5) []), none⟩, ⟨(some 19), (.call (.fnc 6) [(.tmp 18), (.cst (.int .i64 0)), (.cst (.int .i64 7))]), none⟩, ⟨(some 17), (.mv (.tmp 19)), none⟩, ⟨(some 20), (.extract 0 (.tmp 17)), none⟩, ⟨(some 21), (.extract 1 (.tmp 17)), none⟩, ⟨(some 5), (.mv (.tmp 20)), none⟩, ⟨(some 6), (.mv (.tmp 21)), none⟩]
abbrev A4r6 : List AIns := [⟨(some 22), (.mv (.tmp 4)), none⟩, ⟨(some 23), (.bin .eql (.tmp 22) (.cst (.int .i64 0))), none⟩, ⟨(some 24), (.mv (.tmp 23)), none⟩, ⟨(some 25), (.mv (.tmp 3)), (some (24, true))⟩, ⟨(some 26), (.len (.tmp 25)), (some (24, true))⟩, ⟨(some 27), (.bin .eql (.tmp 26) (.cst (.int .i64 2))), (some (24, true))⟩, ⟨(some 28), (.pick (.tmp 24) (.tmp 27) (.cst (.bool false))), none⟩, ⟨(some 29), (.mv (.tmp 28)), none⟩, ⟨(some 30), (.mv (.tmp 3)), (some (29, true))⟩, ⟨(some 31), (.iaddr 1 (.tmp 30) (.cst (.int .i64 1))), (some (29, true))⟩, ⟨(some 32), (.load false 1 (.tmp 31)), (some (29, true))⟩, ⟨(some 33), (.bin .eql (.tmp 32) (.cst (.int .i64 2))), (some (29, true))⟩, ⟨(some 34), (.pick (.tmp 29) (.tmp 33) (.cst (.bool false))), none⟩, ⟨(some 35), (.mv (.tmp 34)), none⟩, ⟨(some 36), (.mv (.tmp 2)), (some (35, true))⟩, ⟨(some 37), (.mv (.tmp 1)), (some (35, true))⟩, ⟨(some 38), (.call (.fnc 9) [(.tmp 36), (.tmp 37), (.cst (.int .i64 (-1))), (.cst (.bool false))]), (some (35, true))⟩, ⟨(some 39), (.bin .eql (.tmp 38) (.cst (.int .i64 0))), (some (35, true))⟩, ⟨(some 40), (.pick (.tmp 35) (.tmp 39) (.cst (.bool false))), none⟩, ⟨(some 41), (.mv (.tmp 40)), none⟩, ⟨(some 42), (.mv (.tmp 6)), (some (41, true))⟩, ⟨(some 43), (.bin .eql (.tmp 42) (.cst (.int .i64 0))), (some (41, true))⟩, ⟨(some 44), (.pick (.tmp 41) (.tmp 43) (.cst (.bool false))), none⟩, ⟨(some 45), (.mv (.tmp 44)), none⟩, ⟨(some 46), (.mv (.tmp 5)), (some (45, true))⟩, ⟨(some 47), (.call (.fnc 12) [(.tmp 46), (.cst (.int .i64 7))]), (some (45, true))⟩, ⟨(some 48), (.bin .eql (.tmp 47) (.cst (.int .i64 0))), (some (45, true))⟩, ⟨(some 49), (.pick (.tmp 45) (.tmp 48) (.cst (.bool false))), none⟩, ⟨(some 50), (.mv (.tmp 49)), none⟩, ⟨(some 51), (.mv (.tmp 1)), (some (50, true))⟩, ⟨(some 52), (.buildS 1 [(.int .i64 0)] 2 [(0, (1, (.cst (.int .i64 0)))), (1, (1, (.cst (.int .i64 0))))]), (some (50, true))⟩, ⟨(some 53), (.call (.fnc 13) [(.tmp 51), (.tmp 52), (.cst (.int .i64 0))]), (some (50, true))⟩, ⟨(some 54), (.bin .eql (.tmp 53) (.cst (.int .i64 1))), (some (50, true))⟩, ⟨(some 55), (.pick (.tmp 50) (.tmp 54) (.cst (.bool false))), none⟩, ⟨(some 0), (.mv (.tmp 55)), none⟩]
def A4 : AFun := ⟨56, 0, [(.tmp 0)], (.seq (.reg A4r1 []) (.seq (.reg A4r2 [1]) (.seq (.reg A4r3 [1, 2]) (.seq (.reg A4r4 [1, 2, 3, 4]) (.seq (.reg A4r5 [1, 2, 3, 4, 5, 6]) (.seq (.reg A4r6 [0]) .ret))))))⟩
theorem A4c : compF Try.prog Try.f4 = some A4 := by kernel_rfl
theorem A4k : Callable Try.prog 4 := fun a w => Try.call4 a w
theorem A4p {ds : List D} {r : D} (hl : ds.length ≤ A4.nt) (hw : W Try.prog A4.code (Fin A4.results r) ⟨argEnv 0 ds, fun _ => none⟩) : PCon Try.prog 4 ds r := pcon_of_W mixed Try.func4 A4k A4c hl hw
/- estovers/generations.New -/
abbrev A5r1 : List AIns := [⟨(some 0), (.mv (.cst .nil)), none⟩]
abbrev A5r2 : List AIns := [⟨(some 1), (.mkslice 1 24 [.nil] (.cst (.int .i64 4)) (.cst (.int .i64 4))), none⟩, ⟨(some 0), (.mv (.tmp 1)), none⟩]
def A5 : AFun := ⟨2, 0, [(.tmp 0)], (.seq (.reg A5r1 []) (.seq (.reg A5r2 [0]) .ret))⟩
theorem A5c : compF Try.prog Try.f5 = some A5 := by kernel_rfl
theorem A5k : Callable Try.prog 5 := fun a w => Try.call5 a w
theorem A5p {ds : List D} {r : D} (hl : ds.length ≤ A5.nt) (hw : W Try.prog A5.code (Fin A5.results r) ⟨argEnv 0 ds, fun _ => none⟩) : PCon Try.prog 5 ds r := pcon_of_W mixed Try.func5 A5k A5c hl hw
/- estovers/generations.Add -/
theorem A6k : Callable Try.prog 6 := fun a w => Try.call6 a w
/- estovers/generations.Order -/
abbrev A8r1 : List AIns := [⟨(some 2), (.mv (.cst .nil)), none⟩, ⟨(some 3), (.mv (.cst (.int .i64 0))), none⟩]
abbrev A8r2 : List AIns := [⟨(some 5), (.mv (.tmp 0)), none⟩, ⟨(some 6), (.call (.fnc 14) [(.tmp 5)]), none⟩, ⟨(some 4), (.mv (.tmp 6)), none⟩]
abbrev A8r3 : List AIns := [⟨(some 7), (.mv (.tmp 4)), none⟩, ⟨(some 8), (.bin .neq (.tmp 7) (.cst (.int .i64 0))), none⟩]
abbrev A8r4 : List AIns := [⟨(some 9), (.mv (.tmp 4)), none⟩, ⟨(some 2), (.mv (.cst .nil)), none⟩, ⟨(some 3), (.mv (.tmp 9)), none⟩]
abbrev A8r5 : List AIns := [⟨(some 10), (.mv (.tmp 0)), none⟩, ⟨(some 11), (.call (.fnc 19) [(.tmp 10)]), none⟩, ⟨(some 2), (.mv (.tmp 11)), none⟩, ⟨(some 3), (.mv (.cst (.int .i64 0))), none⟩]
def A8 : AFun := ⟨12, 1, [(.tmp 2), (.tmp 3)], (.seq (.reg A8r1 [0]) (.seq (.seq (.reg A8r2 [0, 4]) (.seq (.reg A8r3 [0, 4, 8]) (.cond (.tmp 8) [4] (.seq (.reg A8r4 [2, 3]) .ret) [0] .skip))) (.seq (.reg A8r5 [2, 3]) .ret)))⟩
theorem A8c : compF Try.prog Try.f8 = some A8 := by kernel_rfl
theorem A8k : Callable Try.prog 8 := fun a w => Try.call8 a w
theorem A8p {ds : List D} {r : D} (hl : ds.length ≤ A8.nt) (hw : W Try.prog A8.code (Fin A8.results r) ⟨argEnv 0 ds, fun _ => none⟩) : PCon Try.prog 8 ds r := pcon_of_W mixed Try.func8 A8k A8c hl hw
/- estovers/reclaimplan.Next -/
abbrev A9r1 : List AIns := [⟨(some 8), (.mv (.cst (.int .i64 0))), none⟩]
abbrev A9r2 : List AIns := [⟨(some 17), (.mv (.tmp 0)), none⟩, ⟨(some 18), (.mv (.tmp 1)), none⟩, ⟨(some 19), (.mv (.tmp 2)), none⟩, ⟨(some 20), (.mv (.tmp 3)), none⟩, ⟨(some 21), (.call (.fnc 20) [(.tmp 17), (.tmp 18), (.tmp 19), (.tmp 20)]), none⟩, ⟨(some 16), (.mv (.tmp 21)), none⟩, ⟨(some 22), (.extract 0 (.tmp 16)), none⟩, ⟨(some 23), (.extract 1 (.tmp 16)), none⟩, ⟨(some 9), (.mv (.tmp 22)), none⟩, ⟨(some 10), (.mv (.tmp 23)), none⟩]
abbrev A9r3 : List AIns := [⟨(some 24), (.mv (.tmp 10)), none⟩, ⟨(some 25), (.bin .neq (.tmp 24) (.cst (.int .i64 0))), none⟩]
abbrev A9r4 : List AIns := [⟨(some 8), (.mv (.cst (.int .i64 (-1)))), none⟩]
abbrev A9r5 : List AIns := [⟨(some 11), (.mv (.cst (.int .i64 (-1)))), none⟩, ⟨(some 12), (.mv (.cst (.bool false))), none⟩]
abbrev A9r6 : List AIns := [⟨(some 26), (.mv (.tmp 0)), none⟩, ⟨(some 27), (.len (.tmp 26)), none⟩, ⟨(some 28), (.mv (.cst (.int .i64 0))), none⟩]
abbrev A9r8 : List AIns := [⟨(some 29), (.bin .lss (.tmp 28) (.tmp 27)), none⟩]
abbrev A9r9 : List AIns := [⟨(some 30), (.mv (.tmp 28)), none⟩, ⟨(some 31), (.iaddr 7 (.tmp 26) (.tmp 28)), none⟩, ⟨(some 32), (.load true 7 (.tmp 31)), none⟩, ⟨(some 14), (.alloc [(.int .i64 0), (.int .i64 0), (.int .i64 0), (.int .i64 0), (.int .i64 0), (.bool false), (.bool false)]), none⟩, ⟨(some 13), (.mv (.tmp 30)), none⟩, ⟨none, (.store 7 (.tmp 14) (.tmp 32)), none⟩]
abbrev A9r10 : List AIns := [⟨(some 33), (.mv (.tmp 9)), none⟩, ⟨(some 34), (.load true 7 (.tmp 14)), none⟩, ⟨(some 35), (.call (.fnc 21) [(.tmp 33), (.tmp 34)]), none⟩, ⟨(some 36), (.bin .neq (.tmp 35) (.cst (.int .i64 0))), none⟩]
abbrev A9d11 : List AIns := [⟨(some 37), (.faddr 1 (.tmp 14)), none⟩, ⟨(some 38), (.load false 1 (.tmp 37)), none⟩, ⟨(some 39), (.bin .lss (.tmp 38) (.cst (.int .i64 0))), none⟩, ⟨(some 40), (.mv (.tmp 39)), none⟩, ⟨(some 41), (.mv (.tmp 9)), (some (40, false))⟩, ⟨(some 42), (.nilck (.tmp 41)), (some (40, false))⟩, ⟨(some 43), (.faddr 5 (.tmp 42)), (some (40, false))⟩, ⟨(some 44), (.load false 1 (.tmp 43)), (some (40, false))⟩, ⟨(some 45), (.faddr 1 (.tmp 14)), (some (40, false))⟩, ⟨(some 46), (.load false 1 (.tmp 45)), (some (40, false))⟩, ⟨(some 47), (.iaddr 1 (.tmp 44) (.tmp 46)), (some (40, false))⟩, ⟨(some 48), (.load false 1 (.tmp 47)), (some (40, false))⟩, ⟨(some 49), (.un .not (.tmp 48)), (some (40, false))⟩, ⟨(some 50), (.pick (.tmp 40) (.cst (.bool true)) (.tmp 49)), none⟩, ⟨(some 15), (.mv (.tmp 50)), none⟩]
abbrev A9d12 : List AIns := [⟨(some 51), (.mv (.tmp 11)), none⟩, ⟨(some 52), (.bin .lss (.tmp 51) (.cst (.int .i64 0))), none⟩, ⟨(some 53), (.mv (.tmp 52)), none⟩, ⟨(some 54), (.mv (.tmp 15)), (some (53, false))⟩, ⟨(some 55), (.mv (.tmp 54)), (some (53, false))⟩, ⟨(some 56), (.mv (.tmp 12)), (some (55, true))⟩, ⟨(some 57), (.un .not (.tmp 56)), (some (55, true))⟩, ⟨(some 58), (.pick (.tmp 55) (.tmp 57) (.cst (.bool false))), (some (53, false))⟩, ⟨(some 59), (.pick (.tmp 53) (.cst (.bool true)) (.tmp 58)), none⟩, ⟨(some 60), (.mv (.tmp 59)), none⟩, ⟨(some 61), (.mv (.tmp 15)), (some (60, false))⟩, ⟨(some 62), (.mv (.tmp 12)), (some (60, false))⟩, ⟨(some 63), (.eqB false (.tmp 61) (.tmp 62)), (some (60, false))⟩, ⟨(some 64), (.mv (.tmp 63)), (some (60, false))⟩, ⟨(some 65), (.faddr 2 (.tmp 14)), (some (64, true))⟩, ⟨(some 66), (.load false 1 (.tmp 65)), (some (64, true))⟩, ⟨(some 67), (.mv (.tmp 0)), (some (64, true))⟩, ⟨(some 68), (.mv (.tmp 11)), (some (64, true))⟩, ⟨(some 69), (.iaddr 7 (.tmp 67) (.tmp 68)), (some (64, true))⟩, ⟨(some 70), (.faddr 2 (.tmp 69)), (some (64, true))⟩, ⟨(some 71), (.load false 1 (.tmp 70)), (some (64, true))⟩, ⟨(some 72), (.bin .lss (.tmp 66) (.tmp 71)), (some (64, true))⟩, ⟨(some 73), (.pick (.tmp 64) (.tmp 72) (.cst (.bool false))), (some (60, false))⟩, ⟨(some 74), (.pick (.tmp 60) (.cst (.bool true)) (.tmp 73)), none⟩]
abbrev A9r13 : List AIns := [⟨(some 75), (.mv (.tmp 13)), none⟩, ⟨(some 76), (.mv (.tmp 15)), none⟩, ⟨(some 11), (.mv (.tmp 75)), none⟩, ⟨(some 12), (.mv (.tmp 76)), none⟩]
abbrev A9c14 : ACode := (.seq (.reg A9r9 [0, 9, 11, 12, 13, 14, 26, 27, 28]) (.seq (.seq (.reg A9r10 [0, 9, 11, 12, 13, 14, 26, 27, 28, 36]) (.cond (.tmp 36) [0, 9, 11, 12, 26, 27, 28] (.exit 1) [0, 9, 11, 12, 13, 14, 26, 27, 28] .skip)) (.seq (.dreg A9d11 [[], [0], [0, 1], [0, 1, 2], [0, 1, 2, 3], [0, 1, 2, 3, 4], [0, 1, 2, 3, 4, 5], [0, 1, 2, 3, 4, 5, 6], [0, 1, 2, 3], [0, 1, 2, 3, 8], [0, 1, 2, 3, 4, 5, 6, 7, 8, 9], [0, 1, 2, 3, 4, 5, 6, 7, 8, 9, 10], [0, 1, 2, 3, 4, 5, 6, 7, 8, 9, 10, 11], [0, 1, 2, 3, 4, 5, 6, 7, 8, 9, 10, 11, 12], [0, 1, 2, 3, 4, 5, 6, 7, 8, 9, 10, 11, 12, 13]] [0, 9, 11, 12, 13, 14, 15, 26, 27, 28]) (.seq (.dreg A9d12 [[], [0], [0, 1], [0, 1, 2], [0, 1, 2, 3], [0, 1, 2, 3, 4], [0, 1, 2, 3, 4, 5], [0, 1, 2, 3, 4, 5, 6], [0, 1, 2, 3, 4, 5, 6, 7], [0, 1, 2, 3, 4, 5, 6, 7, 8], [0, 1, 2, 3, 4, 5, 6, 7, 8, 9], [0, 1, 2, 3, 4, 5, 6, 7, 8, 9], [0, 1, 2, 3, 4, 5, 6, 7, 8, 9, 10, 11], [0, 1, 2, 3, 4, 5, 6, 7, 8, 9, 10, 11, 12], [0, 1, 2, 3, 4, 5, 6, 7, 8, 9, 10, 11, 12, 13], [0, 1, 2, 3, 4, 5, 6, 7, 8, 9, 10, 11, 12, 13, 14], [0, 1, 2, 3, 4, 5, 6, 7, 8, 9, 10, 11, 12, 13], [0, 1, 2, 3, 4, 5, 6, 7, 8, 9, 10, 11, 12, 13], [0, 1, 2, 3, 4, 5, 6, 7, 8, 9, 10, 11, 12, 13, 16, 17], [0, 1, 2, 3, 4, 5, 6, 7, 8, 9, 10, 11, 12, 13, 16, 17, 18], [0, 1, 2, 3, 4, 5, 6, 7, 8, 9, 10, 11, 12, 13, 16, 17, 18, 19], [0, 1, 2, 3, 4, 5, 6, 7, 8, 9, 10, 11, 12, 13, 14, 15, 16, 17, 18, 19, 20], [0, 1, 2, 3, 4, 5, 6, 7, 8, 9, 10, 11, 12, 13, 14, 15, 16, 17, 18, 19, 20, 21], [0, 1, 2, 3, 4, 5, 6, 7, 8, 9, 10, 11, 12, 13, 14, 15, 16, 17, 18, 19, 20, 21, 22]] [0, 9, 11, 12, 13, 15, 26, 27, 28, 74]) (.cond (.tmp 74) [0, 9, 13, 15, 26, 27, 28] (.reg A9r13 [0, 9, 11, 12, 26, 27, 28]) [0, 9, 11, 12, 26, 27, 28] .skip)))))
abbrev A9r15 : List AIns := [⟨(some 77), (.bin .add (.tmp 28) (.cst (.int .i64 1))), none⟩, ⟨(some 28), (.mv (.tmp 77)), none⟩]
abbrev A9l7 : ACode := (.seq (.reg A9r8 [0, 9, 11, 12, 26, 27, 28, 29]) (.seq (.cond (.tmp 29) [0, 9, 11, 12, 26, 27, 28] .skip [11] (.exit 0)) (.seq (.block 1 A9c14) (.reg A9r15 [0, 9, 11, 12, 26, 27, 28]))))
abbrev A9r16 : List AIns := [⟨(some 78), (.mv (.tmp 11)), none⟩, ⟨(some 8), (.mv (.tmp 78)), none⟩]
def A9 : AFun := ⟨79, 4, [(.tmp 8)], (.seq (.reg A9r1 [0, 1, 2, 3]) (.seq (.reg A9r2 [0, 9, 10]) (.seq (.seq (.reg A9r3 [0, 9, 25]) (.cond (.tmp 25) [] (.seq (.reg A9r4 [8]) .ret) [0, 9] .skip)) (.seq (.reg A9r5 [0, 9, 11, 12]) (.seq (.seq (.reg A9r6 [0, 9, 11, 12, 26, 27, 28]) (.block 0 (.loop A9l7))) (.seq (.reg A9r16 [8]) .ret))))))⟩
theorem A9c : compF Try.prog Try.f9 = some A9 := by kernel_rfl
theorem A9k : Callable Try.prog 9 := fun a w => Try.call9 a w
theorem A9p {ds : List D} {r : D} (hl : ds.length ≤ A9.nt) (hw : W Try.prog A9.code (Fin A9.results r) ⟨argEnv 0 ds, fun _ => none⟩) : PCon Try.prog 9 ds r := pcon_of_W mixed Try.func9 A9k A9c hl hw
/- estovers/estoverstop.ownPages -/
abbrev A10r1 : List AIns := [⟨(some 2), (.mv (.cst .nil)), none⟩]
abbrev A10r2 : List AIns := [⟨(some 3), (.mv (.cst .nil)), none⟩]
abbrev A10r3 : List AIns := [⟨(some 5), (.mv (.tmp 0)), none⟩, ⟨(some 6), (.len (.tmp 5)), none⟩, ⟨(some 7), (.mv (.cst (.int .i64 0))), none⟩]
abbrev A10r5 : List AIns := [⟨(some 8), (.bin .lss (.tmp 7) (.tmp 6)), none⟩]
abbrev A10r6 : List AIns := [⟨(some 9), (.mv (.tmp 7)), none⟩, ⟨(some 4), (.mv (.tmp 9)), none⟩]
abbrev A10r7 : List AIns := [⟨(some 10), (.mv (.tmp 0)), none⟩, ⟨(some 11), (.mv (.tmp 4)), none⟩, ⟨(some 12), (.call (.fnc 22) [(.tmp 10), (.tmp 11)]), none⟩, ⟨(some 13), (.mima false [(.tmp 12), (.cst (.int .i64 300))]), none⟩, ⟨(some 14), (.mima true [(.cst (.int .i64 0)), (.tmp 13)]), none⟩, ⟨(some 15), (.mv (.cst (.int .i64 0))), none⟩]
abbrev A10r9 : List AIns := [⟨(some 16), (.bin .lss (.tmp 15) (.tmp 14)), none⟩]
abbrev A10r10 : List AIns := [⟨(some 17), (.mv (.tmp 3)), none⟩, ⟨(some 18), (.mv (.tmp 3)), none⟩, ⟨(some 19), (.len (.tmp 18)), none⟩, ⟨(some 20), (.mv (.tmp 4)), none⟩, ⟨(some 21), (.mv (.tmp 3)), none⟩, ⟨(some 22), (.len (.tmp 21)), none⟩, ⟨(some 23), (.build [(.int .i64 0), (.int .i64 0), (.int .i64 0), (.int .i64 0), (.int .i64 0), (.bool false), (.bool false)] [(0, (1, (.tmp 19))), (1, (1, (.tmp 20))), (2, (1, (.tmp 22))), (4, (1, (.cst (.int .i64 (-1))))), (5, (1, (.cst (.bool true))))]), none⟩, ⟨(some 24), (.buildS 7 [(.int .i64 0), (.int .i64 0), (.int .i64 0), (.int .i64 0), (.int .i64 0), (.bool false), (.bool false)] 1 [(0, (7, (.tmp 23)))]), none⟩, ⟨(some 25), (.append 7 48 (.tmp 17) (.tmp 24)), none⟩, ⟨(some 3), (.mv (.tmp 25)), none⟩]
abbrev A10r11 : List AIns := [⟨(some 26), (.bin .add (.tmp 15) (.cst (.int .i64 1))), none⟩, ⟨(some 15), (.mv (.tmp 26)), none⟩]
abbrev A10l8 : ACode := (.seq (.reg A10r9 [0, 3, 4, 6, 7, 14, 15, 16]) (.seq (.cond (.tmp 16) [0, 3, 4, 6, 7, 14, 15] .skip [0, 3, 6, 7] (.exit 2)) (.seq (.block 3 (.reg A10r10 [0, 3, 4, 6, 7, 14, 15])) (.reg A10r11 [0, 3, 4, 6, 7, 14, 15]))))
abbrev A10c12 : ACode := (.seq (.reg A10r6 [0, 3, 4, 6, 7]) (.seq (.reg A10r7 [0, 3, 4, 6, 7, 14, 15]) (.block 2 (.loop A10l8))))
abbrev A10r13 : List AIns := [⟨(some 27), (.bin .add (.tmp 7) (.cst (.int .i64 1))), none⟩, ⟨(some 7), (.mv (.tmp 27)), none⟩]
abbrev A10l4 : ACode := (.seq (.reg A10r5 [0, 3, 6, 7, 8]) (.seq (.cond (.tmp 8) [0, 3, 6, 7] .skip [3] (.exit 0)) (.seq (.block 1 A10c12) (.reg A10r13 [0, 3, 6, 7]))))
abbrev A10r14 : List AIns := [⟨(some 28), (.mv (.tmp 3)), none⟩, ⟨(some 29), (.len (.tmp 28)), none⟩, ⟨(some 30), (.bin .gtr (.tmp 29) (.cst (.int .i64 256))), none⟩]
abbrev A10r15 : List AIns := [⟨(some 2), (.mv (.cst .nil)), none⟩]
abbrev A10r16 : List AIns := [⟨(some 31), (.mv (.tmp 3)), none⟩, ⟨(some 2), (.mv (.tmp 31)), none⟩]
def A10 : AFun := ⟨32, 1, [(.tmp 2)], (.seq (.reg A10r1 [0]) (.seq (.reg A10r2 [0, 3]) (.seq (.seq (.reg A10r3 [0, 3, 6, 7]) (.block 0 (.loop A10l4))) (.seq (.seq (.reg A10r14 [3, 30]) (.cond (.tmp 30) [] (.seq (.reg A10r15 [2]) .ret) [3] .skip)) (.seq (.reg A10r16 [2]) .ret)))))⟩
theorem A10c : compF Try.prog Try.f10 = some A10 := by kernel_rfl
theorem A10k : Callable Try.prog 10 := fun a w => Try.call10 a w
theorem A10p {ds : List D} {r : D} (hl : ds.length ≤ A10.nt) (hw : W Try.prog A10.code (Fin A10.results r) ⟨argEnv 0 ds, fun _ => none⟩) : PCon Try.prog 10 ds r := pcon_of_W mixed Try.func10 A10k A10c hl hw
/- estovers/protection.Effective -/
abbrev A11r1 : List AIns := [⟨(some 1), (.box (.tmp 0)), none⟩, ⟨(some 2), (.mv (.cst .nil)), none⟩, ⟨(some 3), (.mv (.cst (.int .i64 0))), none⟩]
abbrev A11r2 : List AIns := [⟨(some 12), (.load false 1 (.tmp 1)), none⟩, ⟨(some 13), (.call (.fnc 23) [(.tmp 12)]), none⟩, ⟨(some 4), (.mv (.tmp 13)), none⟩]
abbrev A11r3 : List AIns := [⟨(some 14), (.mv (.tmp 4)), none⟩, ⟨(some 15), (.bin .neq (.tmp 14) (.cst (.int .i64 0))), none⟩]
abbrev A11r4 : List AIns := [⟨(some 16), (.mv (.tmp 4)), none⟩, ⟨(some 2), (.mv (.cst .nil)), none⟩, ⟨(some 3), (.mv (.tmp 16)), none⟩]
abbrev A11r5 : List AIns := [⟨(some 17), (.mkfn 24 [] [(.tmp 1)]), none⟩, ⟨(some 5), (.mv (.tmp 17)), none⟩]
abbrev A11r6 : List AIns := [⟨(some 18), (.load false 1 (.tmp 1)), none⟩, ⟨(some 19), (.len (.tmp 18)), none⟩, ⟨(some 20), (.mkslice 1 8 [(.int .i64 0)] (.tmp 19) (.tmp 19)), none⟩, ⟨(some 6), (.mv (.tmp 20)), none⟩]
abbrev A11r7 : List AIns := [⟨(some 21), (.load false 1 (.tmp 1)), none⟩, ⟨(some 22), (.len (.tmp 21)), none⟩, ⟨(some 23), (.bin .sub (.tmp 22) (.cst (.int .i64 1))), none⟩, ⟨(some 7), (.mv (.tmp 23)), none⟩]
abbrev A11r9 : List AIns := [⟨(some 24), (.mv (.tmp 7)), none⟩, ⟨(some 25), (.bin .gtr (.tmp 24) (.cst (.int .i64 0))), none⟩]
abbrev A11d10 : List AIns := [⟨(some 28), (.mv (.tmp 6)), none⟩, ⟨(some 29), (.load false 1 (.tmp 1)), none⟩, ⟨(some 30), (.mv (.tmp 7)), none⟩, ⟨(some 31), (.iaddr 5 (.tmp 29) (.tmp 30)), none⟩, ⟨(some 32), (.faddr 0 (.tmp 31)), none⟩, ⟨(some 33), (.load false 1 (.tmp 32)), none⟩, ⟨(some 34), (.iaddr 1 (.tmp 28) (.tmp 33)), none⟩, ⟨(some 35), (.load false 1 (.tmp 34)), none⟩, ⟨(some 36), (.mv (.tmp 5)), none⟩, ⟨(some 37), (.mv (.tmp 7)), none⟩, ⟨(some 38), (.call (.tmp 36) [(.tmp 37)]), none⟩, ⟨(some 39), (.bin .add (.tmp 35) (.tmp 38)), none⟩, ⟨(some 40), (.iaddr 1 (.tmp 28) (.tmp 33)), none⟩, ⟨none, (.store 1 (.tmp 40) (.tmp 39)), none⟩]
abbrev A11d10p : List AIns := [⟨(some 28), (.mv (.tmp 6)), none⟩, ⟨(some 29), (.load false 1 (.tmp 1)), none⟩, ⟨(some 30), (.mv (.tmp 7)), none⟩, ⟨(some 31), (.iaddr 5 (.tmp 29) (.tmp 30)), none⟩, ⟨(some 32), (.faddr 0 (.tmp 31)), none⟩, ⟨(some 33), (.load false 1 (.tmp 32)), none⟩, ⟨(some 34), (.iaddr 1 (.tmp 28) (.tmp 33)), none⟩, ⟨(some 35), (.load false 1 (.tmp 34)), none⟩, ⟨(some 36), (.mv (.tmp 5)), none⟩, ⟨(some 37), (.mv (.tmp 7)), none⟩, ⟨(some 38), (.call (.tmp 36) [(.tmp 37)]), none⟩, ⟨(some 39), (.bin .add (.tmp 35) (.tmp 38)), none⟩, ⟨(some 40), (.iaddr 1 (.tmp 28) (.tmp 33)), none⟩]
abbrev A11c11 : ACode := (.dreg A11d10 [[], [], [], [1, 2], [1, 2, 3], [1, 2, 3, 4], [0, 1, 2, 3, 4, 5], [0, 1, 2, 3, 4, 5, 6], [], [], [8, 9], [0, 1, 2, 3, 4, 5, 6, 7, 8, 9, 10], [0, 1, 2, 3, 4, 5, 6, 7, 8, 9, 10, 11], [0, 1, 2, 3, 4, 5, 6, 7, 8, 9, 10, 11, 12]] [1, 5, 6, 7])
abbrev A11r12 : List AIns := [⟨(some 26), (.mv (.tmp 7)), none⟩, ⟨(some 27), (.bin .sub (.tmp 26) (.cst (.int .i64 1))), none⟩, ⟨(some 7), (.mv (.tmp 27)), none⟩]
abbrev A11l8 : ACode := (.seq (.seq (.reg A11r9 [1, 5, 6, 7, 25]) (.cond (.tmp 25) [1, 5, 6, 7] .skip [1, 5, 6] (.exit 0))) (.seq (.block 1 A11c11) (.reg A11r12 [1, 5, 6, 7])))
abbrev A11r13 : List AIns := [⟨(some 41), (.load false 1 (.tmp 1)), none⟩, ⟨(some 42), (.len (.tmp 41)), none⟩, ⟨(some 43), (.mkslice 1 8 [(.int .i64 0)] (.tmp 42) (.tmp 42)), none⟩, ⟨(some 8), (.mv (.tmp 43)), none⟩]
abbrev A11r14 : List AIns := [⟨(some 44), (.mv (.tmp 8)), none⟩, ⟨(some 45), (.load false 1 (.tmp 1)), none⟩, ⟨(some 46), (.iaddr 5 (.tmp 45) (.cst (.int .i64 0))), none⟩, ⟨(some 47), (.faddr 1 (.tmp 46)), none⟩, ⟨(some 48), (.load false 1 (.tmp 47)), none⟩, ⟨(some 49), (.iaddr 1 (.tmp 44) (.cst (.int .i64 0))), none⟩, ⟨none, (.store 1 (.tmp 49) (.tmp 48)), none⟩]
abbrev A11r15 : List AIns := [⟨(some 9), (.mv (.cst (.int .i64 1))), none⟩]
abbrev A11r17 : List AIns := [⟨(some 50), (.mv (.tmp 9)), none⟩, ⟨(some 51), (.load false 1 (.tmp 1)), none⟩, ⟨(some 52), (.len (.tmp 51)), none⟩, ⟨(some 53), (.bin .lss (.tmp 50) (.tmp 52)), none⟩]
abbrev A11d18 : List AIns := [⟨(some 56), (.mv (.tmp 8)), none⟩, ⟨(some 57), (.load false 1 (.tmp 1)), none⟩, ⟨(some 58), (.mv (.tmp 9)), none⟩, ⟨(some 59), (.iaddr 5 (.tmp 57) (.tmp 58)), none⟩, ⟨(some 60), (.faddr 0 (.tmp 59)), none⟩, ⟨(some 61), (.load false 1 (.tmp 60)), none⟩, ⟨(some 62), (.iaddr 1 (.tmp 56) (.tmp 61)), none⟩, ⟨(some 63), (.load false 1 (.tmp 62)), none⟩, ⟨(some 64), (.mv (.tmp 6)), none⟩, ⟨(some 65), (.load false 1 (.tmp 1)), none⟩, ⟨(some 66), (.mv (.tmp 9)), none⟩, ⟨(some 67), (.iaddr 5 (.tmp 65) (.tmp 66)), none⟩, ⟨(some 68), (.faddr 0 (.tmp 67)), none⟩, ⟨(some 69), (.load false 1 (.tmp 68)), none⟩, ⟨(some 70), (.iaddr 1 (.tmp 64) (.tmp 69)), none⟩, ⟨(some 71), (.load false 1 (.tmp 70)), none⟩, ⟨(some 10), (.mv (.tmp 63)), none⟩, ⟨(some 11), (.mv (.tmp 71)), none⟩]
abbrev A11r19 : List AIns := [⟨(some 72), (.mv (.tmp 8)), none⟩, ⟨(some 73), (.mv (.tmp 9)), none⟩, ⟨(some 74), (.mv (.tmp 5)), none⟩, ⟨(some 75), (.mv (.tmp 9)), none⟩, ⟨(some 76), (.call (.tmp 74) [(.tmp 75)]), none⟩, ⟨(some 77), (.iaddr 1 (.tmp 72) (.tmp 73)), none⟩, ⟨none, (.store 1 (.tmp 77) (.tmp 76)), none⟩]
abbrev A11r20 : List AIns := [⟨(some 78), (.mv (.tmp 11)), none⟩, ⟨(some 79), (.mv (.tmp 10)), none⟩, ⟨(some 80), (.bin .gtr (.tmp 78) (.tmp 79)), none⟩]
abbrev A11r21 : List AIns := [⟨(some 81), (.mv (.tmp 8)), none⟩, ⟨(some 82), (.mv (.tmp 9)), none⟩, ⟨(some 83), (.mv (.tmp 8)), none⟩, ⟨(some 84), (.mv (.tmp 9)), none⟩, ⟨(some 85), (.iaddr 1 (.tmp 83) (.tmp 84)), none⟩, ⟨(some 86), (.load false 1 (.tmp 85)), none⟩, ⟨(some 87), (.mv (.tmp 10)), none⟩, ⟨(some 88), (.bin .mul (.tmp 86) (.tmp 87)), none⟩, ⟨(some 89), (.mv (.tmp 11)), none⟩, ⟨(some 90), (.bin .quo (.tmp 88) (.tmp 89)), none⟩, ⟨(some 91), (.iaddr 1 (.tmp 81) (.tmp 82)), none⟩, ⟨none, (.store 1 (.tmp 91) (.tmp 90)), none⟩]
abbrev A11c22 : ACode := (.seq (.dreg A11d18 [[], [], [], [1, 2], [1, 2, 3], [1, 2, 3, 4], [0, 1, 2, 3, 4, 5], [0, 1, 2, 3, 4, 5, 6], [], [], [], [9, 10], [9, 10, 11], [9, 10, 11, 12], [8, 9, 10, 11, 12, 13], [8, 9, 10, 11, 12, 13, 14], [0, 1, 2, 3, 4, 5, 6, 7], [0, 1, 2, 3, 4, 5, 6, 7, 8, 9, 10, 11, 12, 13, 14, 15, 16]] [1, 5, 6, 8, 9, 10, 11]) (.seq (.reg A11r19 [1, 5, 6, 8, 9, 10, 11]) (.seq (.reg A11r20 [1, 5, 6, 8, 9, 10, 11, 80]) (.cond (.tmp 80) [1, 5, 6, 8, 9, 10, 11] (.reg A11r21 [1, 5, 6, 8, 9]) [1, 5, 6, 8, 9] .skip))))
abbrev A11r23 : List AIns := [⟨(some 54), (.mv (.tmp 9)), none⟩, ⟨(some 55), (.bin .add (.tmp 54) (.cst (.int .i64 1))), none⟩, ⟨(some 9), (.mv (.tmp 55)), none⟩]
abbrev A11l16 : ACode := (.seq (.seq (.reg A11r17 [1, 5, 6, 8, 9, 53]) (.cond (.tmp 53) [1, 5, 6, 8, 9] .skip [8] (.exit 2))) (.seq (.block 3 A11c22) (.reg A11r23 [1, 5, 6, 8, 9])))
abbrev A11r24 : List AIns := [⟨(some 92), (.mv (.tmp 8)), none⟩, ⟨(some 2), (.mv (.tmp 92)), none⟩, ⟨(some 3), (.mv (.cst (.int .i64 0))), none⟩]
def A11 : AFun := ⟨93, 1, [(.tmp 2), (.tmp 3)], (.seq (.reg A11r1 [1]) (.seq (.seq (.reg A11r2 [1, 4]) (.seq (.reg A11r3 [1, 4, 15]) (.cond (.tmp 15) [4] (.seq (.reg A11r4 [2, 3]) .ret) [1] .skip))) (.seq (.reg A11r5 [1, 5]) (.seq (.reg A11r6 [1, 5, 6]) (.seq (.seq (.reg A11r7 [1, 5, 6, 7]) (.block 0 (.loop A11l8))) (.seq (.reg A11r13 [1, 5, 6, 8]) (.seq (.reg A11r14 [1, 5, 6, 8]) (.seq (.seq (.reg A11r15 [1, 5, 6, 8, 9]) (.block 2 (.loop A11l16))) (.seq (.reg A11r24 [2, 3]) .ret)))))))))⟩
theorem A11c : compF Try.prog Try.f11 = some A11 := by kernel_rfl
theorem A11k : Callable Try.prog 11 := fun a w => Try.call11 a w
theorem A11p {ds : List D} {r : D} (hl : ds.length ≤ A11.nt) (hw : W Try.prog A11.code (Fin A11.results r) ⟨argEnv 0 ds, fun _ => none⟩) : PCon Try.prog 11 ds r := pcon_of_W mixed Try.func11 A11k A11c hl hw
/- estovers/generations.Where -/
theorem A12k : Callable Try.prog 12 := fun a w => Try.call12 a w
/- estovers/protection.Open -/
abbrev A13r1 : List AIns := [⟨(some 6), (.mv (.cst (.int .i64 0))), none⟩]
abbrev A13r2 : List AIns := [⟨(some 8), (.mv (.tmp 0)), none⟩, ⟨(some 9), (.mv (.tmp 1)), none⟩, ⟨(some 10), (.call (.fnc 25) [(.tmp 8), (.tmp 9)]), none⟩, ⟨(some 11), (.un .not (.tmp 10)), none⟩]
abbrev A13r3 : List AIns := [⟨(some 6), (.mv (.cst (.int .i64 (-1)))), none⟩]
abbrev A13r4 : List AIns := [⟨(some 12), (.mv (.tmp 0)), none⟩, ⟨(some 13), (.len (.tmp 12)), none⟩, ⟨(some 14), (.mv (.cst (.int .i64 0))), none⟩]
abbrev A13r6 : List AIns := [⟨(some 15), (.bin .lss (.tmp 14) (.tmp 13)), none⟩]
abbrev A13r7 : List AIns := [⟨(some 16), (.mv (.tmp 14)), none⟩, ⟨(some 7), (.mv (.tmp 16)), none⟩]
abbrev A13d8 : List AIns := [⟨(some 17), (.mv (.tmp 0)), none⟩, ⟨(some 18), (.mv (.tmp 7)), none⟩, ⟨(some 19), (.call (.fnc 26) [(.tmp 17), (.tmp 18)]), none⟩, ⟨(some 20), (.mv (.tmp 1)), none⟩, ⟨(some 21), (.mv (.tmp 7)), none⟩, ⟨(some 22), (.iaddr 1 (.tmp 20) (.tmp 21)), none⟩, ⟨(some 23), (.load false 1 (.tmp 22)), none⟩, ⟨(some 24), (.bin .gtr (.tmp 19) (.tmp 23)), none⟩, ⟨(some 25), (.mv (.tmp 24)), none⟩, ⟨(some 26), (.mv (.tmp 0)), (some (25, true))⟩, ⟨(some 27), (.mv (.tmp 1)), (some (25, true))⟩, ⟨(some 28), (.mv (.tmp 7)), (some (25, true))⟩, ⟨(some 29), (.mv (.tmp 2)), (some (25, true))⟩, ⟨(some 30), (.call (.fnc 27) [(.tmp 26), (.tmp 27), (.tmp 28), (.tmp 29), (.cst (.bool false))]), (some (25, true))⟩, ⟨(some 31), (.un .not (.tmp 30)), (some (25, true))⟩, ⟨(some 32), (.pick (.tmp 25) (.tmp 31) (.cst (.bool false))), none⟩]
abbrev A13r9 : List AIns := [⟨(some 33), (.mv (.tmp 7)), none⟩, ⟨(some 6), (.mv (.tmp 33)), none⟩]
abbrev A13c10 : ACode := (.seq (.reg A13r7 [0, 1, 2, 7, 13, 14]) (.seq (.dreg A13d8 [[], [], [0, 1], [], [], [3, 4], [3, 4, 5], [0, 1, 2, 3, 4, 5, 6], [0, 1, 2, 3, 4, 5, 6, 7], [0, 1, 2, 3, 4, 5, 6, 7, 8], [0, 1, 2, 3, 4, 5, 6, 7, 8], [0, 1, 2, 3, 4, 5, 6, 7, 8], [0, 1, 2, 3, 4, 5, 6, 7, 8], [0, 1, 2, 3, 4, 5, 6, 7, 8, 9, 10, 11, 12], [0, 1, 2, 3, 4, 5, 6, 7, 8, 9, 10, 11, 12, 13], [0, 1, 2, 3, 4, 5, 6, 7, 8, 9, 10, 11, 12, 13, 14]] [0, 1, 2, 7, 13, 14, 32]) (.cond (.tmp 32) [7] (.seq (.reg A13r9 [6]) .ret) [0, 1, 2, 13, 14] .skip)))
abbrev A13r11 : List AIns := [⟨(some 34), (.bin .add (.tmp 14) (.cst (.int .i64 1))), none⟩, ⟨(some 14), (.mv (.tmp 34)), none⟩]
abbrev A13l5 : ACode := (.seq (.reg A13r6 [0, 1, 2, 13, 14, 15]) (.seq (.cond (.tmp 15) [0, 1, 2, 13, 14] .skip [] (.exit 0)) (.seq (.block 1 A13c10) (.reg A13r11 [0, 1, 2, 13, 14]))))
abbrev A13r12 : List AIns := [⟨(some 6), (.mv (.cst (.int .i64 (-1)))), none⟩]
def A13 : AFun := ⟨35, 3, [(.tmp 6)], (.seq (.reg A13r1 [0, 1, 2]) (.seq (.seq (.reg A13r2 [0, 1, 2, 11]) (.cond (.tmp 11) [] (.seq (.reg A13r3 [6]) .ret) [0, 1, 2] .skip)) (.seq (.seq (.reg A13r4 [0, 1, 2, 13, 14]) (.block 0 (.loop A13l5))) (.seq (.reg A13r12 [6]) .ret))))⟩
theorem A13c : compF Try.prog Try.f13 = some A13 := by kernel_rfl
theorem A13k : Callable Try.prog 13 := fun a w => Try.call13 a w
theorem A13p {ds : List D} {r : D} (hl : ds.length ≤ A13.nt) (hw : W Try.prog A13.code (Fin A13.results r) ⟨argEnv 0 ds, fun _ => none⟩) : PCon Try.prog 13 ds r := pcon_of_W mixed Try.func13 A13k A13c hl hw
/- estovers/generations.isFrame -/
/- estovers/generations.clone -/
/- estovers/generations.all -/
/- slices.Concat[[]int,int] -/
abbrev A19r1 : List AIns := [⟨(some 2), (.mv (.cst .nil)), none⟩]
abbrev A19r2 : List AIns := [⟨(some 3), (.mv (.cst (.int .i64 0))), none⟩]
abbrev A19r3 : List AIns := [⟨(some 9), (.mv (.tmp 0)), none⟩, ⟨(some 10), (.len (.tmp 9)), none⟩, ⟨(some 11), (.mv (.cst (.int .i64 0))), none⟩]
abbrev A19r5 : List AIns := [⟨(some 12), (.bin .lss (.tmp 11) (.tmp 10)), none⟩]
abbrev A19r6 : List AIns := [⟨(some 13), (.iaddr 1 (.tmp 9) (.tmp 11)), none⟩, ⟨(some 14), (.load false 1 (.tmp 13)), none⟩, ⟨(some 5), (.mv (.tmp 14)), none⟩]
abbrev A19r7 : List AIns := [⟨(some 15), (.mv (.tmp 3)), none⟩, ⟨(some 16), (.mv (.tmp 5)), none⟩, ⟨(some 17), (.len (.tmp 16)), none⟩, ⟨(some 18), (.bin .add (.tmp 15) (.tmp 17)), none⟩, ⟨(some 3), (.mv (.tmp 18)), none⟩]
abbrev A19r8 : List AIns := [⟨(some 19), (.mv (.tmp 3)), none⟩, ⟨(some 20), (.bin .lss (.tmp 19) (.cst (.int .i64 0))), none⟩]
abbrev A19r9 : List AIns := [⟨(some 21), .bad, none⟩, ⟨none, .bad, none⟩]
abbrev A19c10 : ACode := (.seq (.reg A19r6 [0, 3, 5, 9, 10, 11]) (.seq (.reg A19r7 [0, 3, 9, 10, 11]) (.seq (.reg A19r8 [0, 3, 9, 10, 11, 20]) (.cond (.tmp 20) [0, 3, 9, 10, 11] (.reg A19r9 [0, 3, 9, 10, 11]) [0, 3, 9, 10, 11] .skip))))
abbrev A19r11 : List AIns := [⟨(some 22), (.bin .add (.tmp 11) (.cst (.int .i64 1))), none⟩, ⟨(some 11), (.mv (.tmp 22)), none⟩]
abbrev A19l4 : ACode := (.seq (.reg A19r5 [0, 3, 9, 10, 11, 12]) (.seq (.cond (.tmp 12) [0, 3, 9, 10, 11] .skip [0, 3] (.exit 0)) (.seq (.block 1 A19c10) (.reg A19r11 [0, 3, 9, 10, 11]))))
abbrev A19r12 : List AIns := [⟨(some 23), (.mv (.tmp 3)), none⟩, ⟨(some 24), (.call (.fnc 30) [(.cst .nil), (.tmp 23)]), none⟩, ⟨(some 6), (.mv (.tmp 24)), none⟩]
abbrev A19r13 : List AIns := [⟨(some 25), (.mv (.tmp 0)), none⟩, ⟨(some 26), (.len (.tmp 25)), none⟩, ⟨(some 27), (.mv (.cst (.int .i64 0))), none⟩]
abbrev A19r15 : List AIns := [⟨(some 28), (.bin .lss (.tmp 27) (.tmp 26)), none⟩]
abbrev A19r16 : List AIns := [⟨(some 29), (.iaddr 1 (.tmp 25) (.tmp 27)), none⟩, ⟨(some 30), (.load false 1 (.tmp 29)), none⟩, ⟨(some 8), (.mv (.tmp 30)), none⟩]
abbrev A19r17 : List AIns := [⟨(some 31), (.mv (.tmp 6)), none⟩, ⟨(some 32), (.mv (.tmp 8)), none⟩, ⟨(some 33), (.append 1 8 (.tmp 31) (.tmp 32)), none⟩, ⟨(some 6), (.mv (.tmp 33)), none⟩]
abbrev A19c18 : ACode := (.seq (.reg A19r16 [6, 8, 25, 26, 27]) (.reg A19r17 [6, 25, 26, 27]))
abbrev A19r19 : List AIns := [⟨(some 34), (.bin .add (.tmp 27) (.cst (.int .i64 1))), none⟩, ⟨(some 27), (.mv (.tmp 34)), none⟩]
abbrev A19l14 : ACode := (.seq (.reg A19r15 [6, 25, 26, 27, 28]) (.seq (.cond (.tmp 28) [6, 25, 26, 27] .skip [6] (.exit 2)) (.seq (.block 3 A19c18) (.reg A19r19 [6, 25, 26, 27]))))
abbrev A19r20 : List AIns := [⟨(some 35), (.mv (.tmp 6)), none⟩, ⟨(some 2), (.mv (.tmp 35)), none⟩]
def A19 : AFun := ⟨36, 1, [(.tmp 2)], (.seq (.reg A19r1 [0]) (.seq (.reg A19r2 [0, 3]) (.seq (.seq (.reg A19r3 [0, 3, 9, 10, 11]) (.block 0 (.loop A19l4))) (.seq (.reg A19r12 [0, 6]) (.seq (.seq (.reg A19r13 [6, 25, 26, 27]) (.block 2 (.loop A19l14))) (.seq (.reg A19r20 [2]) .ret))))))⟩
theorem A19c : compF Try.prog Try.f19 = some A19 := by kernel_rfl
theorem A19k : Callable Try.prog 19 := fun a w => Try.call19 a w
theorem A19p {ds : List D} {r : D} (hl : ds.length ≤ A19.nt) (hw : W Try.prog A19.code (Fin A19.results r) ⟨argEnv 0 ds, fun _ => none⟩) : PCon Try.prog 19 ds r := pcon_of_W mixed Try.func19 A19k A19c hl hw
/- estovers/reclaimplan.ask -/
abbrev A20r1 : List AIns := [⟨(some 8), (.mv (.cst .nilp)), none⟩, ⟨(some 9), (.mv (.cst (.int .i64 0))), none⟩]
abbrev A20r2 : List AIns := [⟨(some 16), (.mv (.tmp 0)), none⟩, ⟨(some 17), (.mv (.tmp 1)), none⟩, ⟨(some 18), (.call (.fnc 31) [(.tmp 16), (.tmp 17)]), none⟩, ⟨(some 10), (.mv (.tmp 18)), none⟩]
abbrev A20r3 : List AIns := [⟨(some 19), (.mv (.tmp 10)), none⟩, ⟨(some 20), (.bin .neq (.tmp 19) (.cst (.int .i64 0))), none⟩]
abbrev A20r4 : List AIns := [⟨(some 21), (.mv (.tmp 10)), none⟩, ⟨(some 8), (.mv (.cst .nilp)), none⟩, ⟨(some 9), (.mv (.tmp 21)), none⟩]
abbrev A20r5 : List AIns := [⟨(some 22), (.mv (.tmp 2)), none⟩, ⟨(some 23), (.bin .lss (.tmp 22) (.cst (.int .i64 (-1)))), none⟩, ⟨(some 24), (.mv (.tmp 23)), none⟩, ⟨(some 25), (.mv (.tmp 2)), (some (24, false))⟩, ⟨(some 26), (.mv (.tmp 1)), (some (24, false))⟩, ⟨(some 27), (.len (.tmp 26)), (some (24, false))⟩, ⟨(some 28), (.bin .geq (.tmp 25) (.tmp 27)), (some (24, false))⟩, ⟨(some 29), (.pick (.tmp 24) (.cst (.bool true)) (.tmp 28)), none⟩]
abbrev A20r6 : List AIns := [⟨(some 8), (.mv (.cst .nilp)), none⟩, ⟨(some 9), (.mv (.cst (.int .i64 2))), none⟩]
abbrev A20r7 : List AIns := [⟨(some 30), (.mv (.tmp 1)), none⟩, ⟨(some 31), (.len (.tmp 30)), none⟩, ⟨(some 32), (.mkslice 1 8 [(.int .i64 0)] (.tmp 31) (.tmp 31)), none⟩, ⟨(some 11), (.mv (.tmp 32)), none⟩]
abbrev A20r8 : List AIns := [⟨(some 33), (.mv (.tmp 0)), none⟩, ⟨(some 34), (.len (.tmp 33)), none⟩, ⟨(some 35), (.mv (.cst (.int .i64 0))), none⟩]
abbrev A20r10 : List AIns := [⟨(some 36), (.bin .lss (.tmp 35) (.tmp 34)), none⟩]
abbrev A20r11 : List AIns := [⟨(some 37), (.iaddr 7 (.tmp 33) (.tmp 35)), none⟩, ⟨(some 38), (.load true 7 (.tmp 37)), none⟩, ⟨(some 13), (.alloc [(.int .i64 0), (.int .i64 0), (.int .i64 0), (.int .i64 0), (.int .i64 0), (.bool false), (.bool false)]), none⟩, ⟨none, (.store 7 (.tmp 13) (.tmp 38)), none⟩]
abbrev A20r12 : List AIns := [⟨(some 39), (.faddr 6 (.tmp 13)), none⟩, ⟨(some 40), (.load false 1 (.tmp 39)), none⟩, ⟨(some 41), (.mv (.tmp 40)), none⟩, ⟨(some 42), (.faddr 1 (.tmp 13)), (some (41, true))⟩, ⟨(some 43), (.load false 1 (.tmp 42)), (some (41, true))⟩, ⟨(some 44), (.bin .geq (.tmp 43) (.cst (.int .i64 0))), (some (41, true))⟩, ⟨(some 45), (.pick (.tmp 41) (.tmp 44) (.cst (.bool false))), none⟩]
abbrev A20r13 : List AIns := [⟨(some 46), (.mv (.tmp 11)), none⟩, ⟨(some 47), (.faddr 1 (.tmp 13)), none⟩, ⟨(some 48), (.load false 1 (.tmp 47)), none⟩, ⟨(some 49), (.iaddr 1 (.tmp 46) (.tmp 48)), none⟩, ⟨(some 50), (.load false 1 (.tmp 49)), none⟩, ⟨(some 51), (.bin .add (.tmp 50) (.cst (.int .i64 1))), none⟩, ⟨(some 52), (.iaddr 1 (.tmp 46) (.tmp 48)), none⟩, ⟨none, (.store 1 (.tmp 52) (.tmp 51)), none⟩]
abbrev A20c14 : ACode := (.seq (.reg A20r11 [0, 1, 2, 3, 11, 13, 33, 34, 35]) (.seq (.reg A20r12 [0, 1, 2, 3, 11, 13, 33, 34, 35, 45]) (.cond (.tmp 45) [0, 1, 2, 3, 11, 13, 33, 34, 35] (.reg A20r13 [0, 1, 2, 3, 11, 33, 34, 35]) [0, 1, 2, 3, 11, 33, 34, 35] .skip)))
abbrev A20r15 : List AIns := [⟨(some 53), (.bin .add (.tmp 35) (.cst (.int .i64 1))), none⟩, ⟨(some 35), (.mv (.tmp 53)), none⟩]
abbrev A20l9 : ACode := (.seq (.reg A20r10 [0, 1, 2, 3, 11, 33, 34, 35, 36]) (.seq (.cond (.tmp 36) [0, 1, 2, 3, 11, 33, 34, 35] .skip [0, 1, 2, 3, 11] (.exit 0)) (.seq (.block 1 A20c14) (.reg A20r15 [0, 1, 2, 3, 11, 33, 34, 35]))))
abbrev A20r16 : List AIns := [⟨(some 54), (.mv (.tmp 0)), none⟩, ⟨(some 55), (.mv (.tmp 2)), none⟩, ⟨(some 56), (.mv (.tmp 3)), none⟩, ⟨(some 57), (.build [.nil, (.int .i64 0), (.bool false), .nil, .nil, .nil] [(0, (1, (.tmp 54))), (1, (1, (.tmp 55))), (2, (1, (.tmp 56)))]), none⟩, ⟨(some 58), (.box (.tmp 57)), none⟩, ⟨(some 14), (.mv (.tmp 58)), none⟩]
abbrev A20r17 : List AIns := [⟨(some 59), (.mv (.tmp 1)), none⟩, ⟨(some 60), (.len (.tmp 59)), none⟩, ⟨(some 61), (.mv (.cst (.int .i64 0))), none⟩]
abbrev A20r19 : List AIns := [⟨(some 62), (.bin .lss (.tmp 61) (.tmp 60)), none⟩]
abbrev A20r20 : List AIns := [⟨(some 63), (.mv (.tmp 61)), none⟩, ⟨(some 15), (.mv (.tmp 63)), none⟩]
abbrev A20d21 : List AIns := [⟨(some 64), (.mv (.tmp 14)), none⟩, ⟨(some 65), (.mv (.tmp 14)), none⟩, ⟨(some 66), (.nilck (.tmp 65)), none⟩, ⟨(some 67), (.faddr 3 (.tmp 66)), none⟩, ⟨(some 68), (.load false 1 (.tmp 67)), none⟩, ⟨(some 69), (.mv (.tmp 1)), none⟩, ⟨(some 70), (.mv (.tmp 15)), none⟩, ⟨(some 71), (.mv (.tmp 2)), none⟩, ⟨(some 72), (.call (.fnc 32) [(.tmp 69), (.tmp 70), (.tmp 71)]), none⟩, ⟨(some 73), (.buildS 1 [(.bool false)] 1 [(0, (1, (.tmp 72)))]), none⟩, ⟨(some 74), (.append 1 1 (.tmp 68) (.tmp 73)), none⟩, ⟨(some 75), (.nilck (.tmp 64)), none⟩, ⟨(some 76), (.faddr 3 (.tmp 75)), none⟩, ⟨none, (.store 1 (.tmp 76) (.tmp 74)), none⟩]
abbrev A20d21a : List AIns := [⟨(some 64), (.mv (.tmp 14)), none⟩, ⟨(some 65), (.mv (.tmp 14)), none⟩, ⟨(some 66), (.nilck (.tmp 65)), none⟩, ⟨(some 67), (.faddr 3 (.tmp 66)), none⟩, ⟨(some 68), (.load false 1 (.tmp 67)), none⟩, ⟨(some 69), (.mv (.tmp 1)), none⟩, ⟨(some 70), (.mv (.tmp 15)), none⟩, ⟨(some 71), (.mv (.tmp 2)), none⟩, ⟨(some 72), (.call (.fnc 32) [(.tmp 69), (.tmp 70), (.tmp 71)]), none⟩]
abbrev A20d21b : List AIns := [⟨(some 73), (.buildS 1 [(.bool false)] 1 [(0, (1, (.tmp 72)))]), none⟩, ⟨(some 74), (.append 1 1 (.tmp 68) (.tmp 73)), none⟩, ⟨(some 75), (.nilck (.tmp 64)), none⟩, ⟨(some 76), (.faddr 3 (.tmp 75)), none⟩, ⟨none, (.store 1 (.tmp 76) (.tmp 74)), none⟩]
abbrev A20d22 : List AIns := [⟨(some 77), (.mv (.tmp 14)), none⟩, ⟨(some 78), (.mv (.tmp 14)), none⟩, ⟨(some 79), (.nilck (.tmp 78)), none⟩, ⟨(some 80), (.faddr 4 (.tmp 79)), none⟩, ⟨(some 81), (.load false 1 (.tmp 80)), none⟩, ⟨(some 82), (.mv (.tmp 1)), none⟩, ⟨(some 83), (.mv (.tmp 11)), none⟩, ⟨(some 84), (.mv (.tmp 15)), none⟩, ⟨(some 85), (.mv (.tmp 2)), none⟩, ⟨(some 86), (.call (.fnc 27) [(.tmp 82), (.tmp 83), (.tmp 84), (.tmp 85), (.cst (.bool false))]), none⟩, ⟨(some 87), (.buildS 1 [(.bool false)] 1 [(0, (1, (.tmp 86)))]), none⟩, ⟨(some 88), (.append 1 1 (.tmp 81) (.tmp 87)), none⟩, ⟨(some 89), (.nilck (.tmp 77)), none⟩, ⟨(some 90), (.faddr 4 (.tmp 89)), none⟩, ⟨none, (.store 1 (.tmp 90) (.tmp 88)), none⟩]
abbrev A20d22a : List AIns := [⟨(some 77), (.mv (.tmp 14)), none⟩, ⟨(some 78), (.mv (.tmp 14)), none⟩, ⟨(some 79), (.nilck (.tmp 78)), none⟩, ⟨(some 80), (.faddr 4 (.tmp 79)), none⟩, ⟨(some 81), (.load false 1 (.tmp 80)), none⟩, ⟨(some 82), (.mv (.tmp 1)), none⟩, ⟨(some 83), (.mv (.tmp 11)), none⟩, ⟨(some 84), (.mv (.tmp 15)), none⟩, ⟨(some 85), (.mv (.tmp 2)), none⟩, ⟨(some 86), (.call (.fnc 27) [(.tmp 82), (.tmp 83), (.tmp 84), (.tmp 85), (.cst (.bool false))]), none⟩]
abbrev A20d22b : List AIns := [⟨(some 87), (.buildS 1 [(.bool false)] 1 [(0, (1, (.tmp 86)))]), none⟩, ⟨(some 88), (.append 1 1 (.tmp 81) (.tmp 87)), none⟩, ⟨(some 89), (.nilck (.tmp 77)), none⟩, ⟨(some 90), (.faddr 4 (.tmp 89)), none⟩, ⟨none, (.store 1 (.tmp 90) (.tmp 88)), none⟩]
abbrev A20d23 : List AIns := [⟨(some 91), (.mv (.tmp 14)), none⟩, ⟨(some 92), (.mv (.tmp 14)), none⟩, ⟨(some 93), (.nilck (.tmp 92)), none⟩, ⟨(some 94), (.faddr 5 (.tmp 93)), none⟩, ⟨(some 95), (.load false 1 (.tmp 94)), none⟩, ⟨(some 96), (.mv (.tmp 1)), none⟩, ⟨(some 97), (.mv (.tmp 11)), none⟩, ⟨(some 98), (.mv (.tmp 15)), none⟩, ⟨(some 99), (.mv (.tmp 2)), none⟩, ⟨(some 100), (.call (.fnc 27) [(.tmp 96), (.tmp 97), (.tmp 98), (.tmp 99), (.cst (.bool true))]), none⟩, ⟨(some 101), (.buildS 1 [(.bool false)] 1 [(0, (1, (.tmp 100)))]), none⟩, ⟨(some 102), (.append 1 1 (.tmp 95) (.tmp 101)), none⟩, ⟨(some 103), (.nilck (.tmp 91)), none⟩, ⟨(some 104), (.faddr 5 (.tmp 103)), none⟩, ⟨none, (.store 1 (.tmp 104) (.tmp 102)), none⟩]
abbrev A20d23a : List AIns := [⟨(some 91), (.mv (.tmp 14)), none⟩, ⟨(some 92), (.mv (.tmp 14)), none⟩, ⟨(some 93), (.nilck (.tmp 92)), none⟩, ⟨(some 94), (.faddr 5 (.tmp 93)), none⟩, ⟨(some 95), (.load false 1 (.tmp 94)), none⟩, ⟨(some 96), (.mv (.tmp 1)), none⟩, ⟨(some 97), (.mv (.tmp 11)), none⟩, ⟨(some 98), (.mv (.tmp 15)), none⟩, ⟨(some 99), (.mv (.tmp 2)), none⟩, ⟨(some 100), (.call (.fnc 27) [(.tmp 96), (.tmp 97), (.tmp 98), (.tmp 99), (.cst (.bool true))]), none⟩]
abbrev A20d23b : List AIns := [⟨(some 101), (.buildS 1 [(.bool false)] 1 [(0, (1, (.tmp 100)))]), none⟩, ⟨(some 102), (.append 1 1 (.tmp 95) (.tmp 101)), none⟩, ⟨(some 103), (.nilck (.tmp 91)), none⟩, ⟨(some 104), (.faddr 5 (.tmp 103)), none⟩, ⟨none, (.store 1 (.tmp 104) (.tmp 102)), none⟩]
abbrev A20c24 : ACode := (.seq (.reg A20r20 [1, 2, 11, 14, 15, 60, 61]) (.seq (.dreg A20d21 [[], [], [1], [1, 2], [1, 2, 3], [], [], [], [5, 6, 7], [5, 6, 7, 8], [1, 2, 3, 4, 5, 6, 7, 8, 9], [0, 1, 2, 3, 4, 5, 6, 7, 8, 9, 10], [0, 1, 2, 3, 4, 5, 6, 7, 8, 9, 10, 11], [0, 1, 2, 3, 4, 5, 6, 7, 8, 9, 10, 11, 12]] [1, 2, 11, 14, 15, 60, 61]) (.seq (.dreg A20d22 [[], [], [1], [1, 2], [1, 2, 3], [], [], [], [], [5, 6, 7, 8], [5, 6, 7, 8, 9], [1, 2, 3, 4, 5, 6, 7, 8, 9, 10], [0, 1, 2, 3, 4, 5, 6, 7, 8, 9, 10, 11], [0, 1, 2, 3, 4, 5, 6, 7, 8, 9, 10, 11, 12], [0, 1, 2, 3, 4, 5, 6, 7, 8, 9, 10, 11, 12, 13]] [1, 2, 11, 14, 15, 60, 61]) (.dreg A20d23 [[], [], [1], [1, 2], [1, 2, 3], [], [], [], [], [5, 6, 7, 8], [5, 6, 7, 8, 9], [1, 2, 3, 4, 5, 6, 7, 8, 9, 10], [0, 1, 2, 3, 4, 5, 6, 7, 8, 9, 10, 11], [0, 1, 2, 3, 4, 5, 6, 7, 8, 9, 10, 11, 12], [0, 1, 2, 3, 4, 5, 6, 7, 8, 9, 10, 11, 12, 13]] [1, 2, 11, 14, 60, 61]))))
abbrev A20r25 : List AIns := [⟨(some 105), (.bin .add (.tmp 61) (.cst (.int .i64 1))), none⟩, ⟨(some 61), (.mv (.tmp 105)), none⟩]
abbrev A20l18 : ACode := (.seq (.reg A20r19 [1, 2, 11, 14, 60, 61, 62]) (.seq (.cond (.tmp 62) [1, 2, 11, 14, 60, 61] .skip [14] (.exit 2)) (.seq (.block 3 A20c24) (.reg A20r25 [1, 2, 11, 14, 60, 61]))))
abbrev A20r26 : List AIns := [⟨(some 106), (.mv (.tmp 14)), none⟩, ⟨(some 8), (.mv (.tmp 106)), none⟩, ⟨(some 9), (.mv (.cst (.int .i64 0))), none⟩]
def A20 : AFun := ⟨107, 4, [(.tmp 8), (.tmp 9)], (.seq (.reg A20r1 [0, 1, 2, 3]) (.seq (.seq (.reg A20r2 [0, 1, 2, 3, 10]) (.seq (.reg A20r3 [0, 1, 2, 3, 10, 20]) (.cond (.tmp 20) [10] (.seq (.reg A20r4 [8, 9]) .ret) [0, 1, 2, 3] .skip))) (.seq (.seq (.reg A20r5 [0, 1, 2, 3, 29]) (.cond (.tmp 29) [] (.seq (.reg A20r6 [8, 9]) .ret) [0, 1, 2, 3] .skip)) (.seq (.reg A20r7 [0, 1, 2, 3, 11]) (.seq (.seq (.reg A20r8 [0, 1, 2, 3, 11, 33, 34, 35]) (.block 0 (.loop A20l9))) (.seq (.reg A20r16 [1, 2, 11, 14]) (.seq (.seq (.reg A20r17 [1, 2, 11, 14, 60, 61]) (.block 2 (.loop A20l18))) (.seq (.reg A20r26 [8, 9]) .ret))))))))⟩
theorem A20c : compF Try.prog Try.f20 = some A20 := by kernel_rfl
theorem A20k : Callable Try.prog 20 := fun a w => Try.call20 a w
/- (*estovers/reclaimplan.question).reason -/
abbrev A21r1 : List AIns := [⟨(some 3), (.box (.tmp 1)), none⟩, ⟨(some 4), (.mv (.cst (.int .i64 0))), none⟩]
abbrev A21r2 : List AIns := [⟨(some 6), (.mv (.tmp 0)), none⟩, ⟨(some 7), (.load true 7 (.tmp 3)), none⟩, ⟨(some 8), (.call (.fnc 33) [(.tmp 6), (.tmp 7)]), none⟩, ⟨(some 5), (.mv (.tmp 8)), none⟩]
abbrev A21r3 : List AIns := [⟨(some 4), (.mv (.cst (.int .i64 13))), none⟩]
abbrev A21r4 : List AIns := [⟨(some 10), (.mv (.tmp 0)), none⟩, ⟨(some 11), (.nilck (.tmp 10)), none⟩, ⟨(some 12), (.faddr 2 (.tmp 11)), none⟩, ⟨(some 13), (.load false 1 (.tmp 12)), none⟩, ⟨(some 14), (.mv (.tmp 13)), none⟩, ⟨(some 15), (.faddr 5 (.tmp 3)), (some (14, true))⟩, ⟨(some 16), (.load false 1 (.tmp 15)), (some (14, true))⟩, ⟨(some 17), (.un .not (.tmp 16)), (some (14, true))⟩, ⟨(some 18), (.pick (.tmp 14) (.tmp 17) (.cst (.bool false))), none⟩, ⟨(some 9), (.mv (.tmp 18)), none⟩]
abbrev A21r5 : List AIns := [⟨(some 4), (.mv (.cst (.int .i64 12))), none⟩]
abbrev A21r6 : List AIns := [⟨(some 20), (.faddr 6 (.tmp 3)), none⟩, ⟨(some 21), (.load false 1 (.tmp 20)), none⟩, ⟨(some 19), (.mv (.tmp 21)), none⟩]
abbrev A21r7 : List AIns := [⟨(some 4), (.mv (.cst (.int .i64 8))), none⟩]
abbrev A21r8 : List AIns := [⟨(some 23), (.faddr 3 (.tmp 3)), none⟩, ⟨(some 24), (.load false 1 (.tmp 23)), none⟩, ⟨(some 25), (.bin .neq (.tmp 24) (.cst (.int .i64 0))), none⟩, ⟨(some 26), (.mv (.tmp 25)), none⟩, ⟨(some 27), (.faddr 3 (.tmp 3)), (some (26, true))⟩, ⟨(some 28), (.load false 1 (.tmp 27)), (some (26, true))⟩, ⟨(some 29), (.bin .neq (.tmp 28) (.cst (.int .i64 8))), (some (26, true))⟩, ⟨(some 30), (.pick (.tmp 26) (.tmp 29) (.cst (.bool false))), none⟩, ⟨(some 22), (.mv (.tmp 30)), none⟩]
abbrev A21r9 : List AIns := [⟨(some 31), (.faddr 3 (.tmp 3)), none⟩, ⟨(some 32), (.load false 1 (.tmp 31)), none⟩, ⟨(some 4), (.mv (.tmp 32)), none⟩]
abbrev A21r10 : List AIns := [⟨(some 34), (.mv (.tmp 0)), none⟩, ⟨(some 35), (.load true 7 (.tmp 3)), none⟩, ⟨(some 36), (.call (.fnc 34) [(.tmp 34), (.tmp 35)]), none⟩, ⟨(some 33), (.mv (.tmp 36)), none⟩]
abbrev A21r11 : List AIns := [⟨(some 4), (.mv (.cst (.int .i64 11))), none⟩]
abbrev A21c12 : ACode := (.seq (.reg A21r10 [3, 33]) (.cond (.tmp 33) [] (.seq (.reg A21r11 [4]) .ret) [3] .skip))
abbrev A21c13 : ACode := (.seq (.reg A21r8 [0, 3, 22]) (.cond (.tmp 22) [3] (.seq (.reg A21r9 [4]) .ret) [0, 3] A21c12))
abbrev A21c14 : ACode := (.seq (.reg A21r6 [0, 3, 19]) (.cond (.tmp 19) [] (.seq (.reg A21r7 [4]) .ret) [0, 3] A21c13))
abbrev A21c15 : ACode := (.seq (.reg A21r4 [0, 3, 9]) (.cond (.tmp 9) [] (.seq (.reg A21r5 [4]) .ret) [0, 3] A21c14))
abbrev A21c16 : ACode := (.seq (.reg A21r2 [0, 3, 5]) (.cond (.tmp 5) [] (.seq (.reg A21r3 [4]) .ret) [0, 3] A21c15))
abbrev A21r17 : List AIns := [⟨(some 37), (.faddr 3 (.tmp 3)), none⟩, ⟨(some 38), (.load false 1 (.tmp 37)), none⟩, ⟨(some 4), (.mv (.tmp 38)), none⟩]
def A21 : AFun := ⟨39, 2, [(.tmp 4)], (.seq (.reg A21r1 [0, 3]) (.seq (.block 0 A21c16) (.seq (.reg A21r17 [4]) .ret)))⟩
theorem A21c : compF Try.prog Try.f21 = some A21 := by kernel_rfl
theorem A21k : Callable Try.prog 21 := fun a w => Try.call21 a w
theorem A21p {ds : List D} {r : D} (hl : ds.length ≤ A21.nt) (hw : W Try.prog A21.code (Fin A21.results r) ⟨argEnv 0 ds, fun _ => none⟩) : PCon Try.prog 21 ds r := pcon_of_W mixed Try.func21 A21k A21c hl hw
/- estovers/estoversref19.Own -/
abbrev A22r1 : List AIns := [⟨(some 4), (.mv (.cst (.int .i64 0))), none⟩]
abbrev A22r2 : List AIns := [⟨(some 5), (.mv (.tmp 0)), none⟩, ⟨(some 6), (.mv (.tmp 1)), none⟩, ⟨(some 7), (.call (.fnc 35) [(.tmp 5), (.tmp 6)]), none⟩, ⟨(some 8), (.un .not (.tmp 7)), none⟩]
abbrev A22r3 : List AIns := [⟨(some 4), (.mv (.cst (.int .i64 (-1)))), none⟩]
abbrev A22d4 : List AIns := [⟨(some 9), (.mv (.tmp 0)), none⟩, ⟨(some 10), (.mv (.tmp 1)), none⟩, ⟨(some 11), (.iaddr 5 (.tmp 9) (.tmp 10)), none⟩, ⟨(some 12), (.faddr 1 (.tmp 11)), none⟩, ⟨(some 13), (.load false 1 (.tmp 12)), none⟩, ⟨(some 14), (.mv (.tmp 0)), none⟩, ⟨(some 15), (.mv (.tmp 1)), none⟩, ⟨(some 16), (.call (.fnc 36) [(.tmp 14), (.tmp 15)]), none⟩, ⟨(some 17), (.bin .sub (.tmp 13) (.tmp 16)), none⟩, ⟨(some 4), (.mv (.tmp 17)), none⟩]
def A22 : AFun := ⟨18, 2, [(.tmp 4)], (.seq (.reg A22r1 [0, 1]) (.seq (.seq (.reg A22r2 [0, 1, 8]) (.cond (.tmp 8) [] (.seq (.reg A22r3 [4]) .ret) [0, 1] .skip)) (.seq (.dreg A22d4 [[], [], [0, 1], [0, 1, 2], [0, 1, 2, 3], [], [], [5, 6], [0, 1, 2, 3, 4, 5, 6, 7], [0, 1, 2, 3, 4, 5, 6, 7, 8]] [4]) .ret)))⟩
theorem A22c : compF Try.prog Try.f22 = some A22 := by kernel_rfl
theorem A22k : Callable Try.prog 22 := fun a w => Try.call22 a w
theorem A22p {ds : List D} {r : D} (hl : ds.length ≤ A22.nt) (hw : W Try.prog A22.code (Fin A22.results r) ⟨argEnv 0 ds, fun _ => none⟩) : PCon Try.prog 22 ds r := pcon_of_W mixed Try.func22 A22k A22c hl hw
/- estovers/accounts.Check -/
abbrev A23r1 : List AIns := [⟨(some 2), (.mv (.cst (.int .i64 0))), none⟩]
abbrev A23r2 : List AIns := [⟨(some 4), (.mv (.tmp 0)), none⟩, ⟨(some 5), (.len (.tmp 4)), none⟩, ⟨(some 6), (.bin .lss (.tmp 5) (.cst (.int .i64 1))), none⟩, ⟨(some 7), (.mv (.tmp 6)), none⟩, ⟨(some 8), (.mv (.tmp 0)), (some (7, false))⟩, ⟨(some 9), (.len (.tmp 8)), (some (7, false))⟩, ⟨(some 10), (.bin .gtr (.tmp 9) (.cst (.int .i64 8))), (some (7, false))⟩, ⟨(some 11), (.pick (.tmp 7) (.cst (.bool true)) (.tmp 10)), none⟩, ⟨(some 3), (.mv (.tmp 11)), none⟩]
abbrev A23r3 : List AIns := [⟨(some 2), (.mv (.cst (.int .i64 9))), none⟩]
abbrev A23r4 : List AIns := [⟨(some 13), (.mv (.tmp 0)), none⟩, ⟨(some 14), (.call (.fnc 37) [(.tmp 13)]), none⟩, ⟨(some 15), (.un .not (.tmp 14)), none⟩, ⟨(some 12), (.mv (.tmp 15)), none⟩]
abbrev A23r5 : List AIns := [⟨(some 2), (.mv (.cst (.int .i64 1))), none⟩]
abbrev A23r6 : List AIns := [⟨(some 17), (.mv (.tmp 0)), none⟩, ⟨(some 18), (.call (.fnc 38) [(.tmp 17)]), none⟩, ⟨(some 19), (.un .not (.tmp 18)), none⟩, ⟨(some 16), (.mv (.tmp 19)), none⟩]
abbrev A23r7 : List AIns := [⟨(some 2), (.mv (.cst (.int .i64 2))), none⟩]
abbrev A23r8 : List AIns := [⟨(some 21), (.mv (.tmp 0)), none⟩, ⟨(some 22), (.call (.fnc 39) [(.tmp 21), (.fnc 40)]), none⟩, ⟨(some 20), (.mv (.tmp 22)), none⟩]
abbrev A23r9 : List AIns := [⟨(some 2), (.mv (.cst (.int .i64 17))), none⟩]
abbrev A23r10 : List AIns := [⟨(some 24), (.mv (.tmp 0)), none⟩, ⟨(some 25), (.call (.fnc 42) [(.tmp 24)]), none⟩, ⟨(some 26), (.call (.fnc 41) [(.tmp 25)]), none⟩, ⟨(some 27), (.bin .lss (.tmp 26) (.cst (.int .i64 0))), none⟩, ⟨(some 23), (.mv (.tmp 27)), none⟩]
abbrev A23r11 : List AIns := [⟨(some 2), (.mv (.cst (.int .i64 11))), none⟩]
abbrev A23c12 : ACode := (.seq (.reg A23r10 [23]) (.cond (.tmp 23) [] (.seq (.reg A23r11 [2]) .ret) [] .skip))
abbrev A23c13 : ACode := (.seq (.reg A23r8 [0, 20]) (.cond (.tmp 20) [] (.seq (.reg A23r9 [2]) .ret) [0] A23c12))
abbrev A23c14 : ACode := (.seq (.reg A23r6 [0, 16]) (.cond (.tmp 16) [] (.seq (.reg A23r7 [2]) .ret) [0] A23c13))
abbrev A23c15 : ACode := (.seq (.reg A23r4 [0, 12]) (.cond (.tmp 12) [] (.seq (.reg A23r5 [2]) .ret) [0] A23c14))
abbrev A23c16 : ACode := (.seq (.reg A23r2 [0, 3]) (.cond (.tmp 3) [] (.seq (.reg A23r3 [2]) .ret) [0] A23c15))
abbrev A23r17 : List AIns := [⟨(some 2), (.mv (.cst (.int .i64 0))), none⟩]
def A23 : AFun := ⟨28, 1, [(.tmp 2)], (.seq (.reg A23r1 [0]) (.seq (.block 0 A23c16) (.seq (.reg A23r17 [2]) .ret)))⟩
theorem A23c : compF Try.prog Try.f23 = some A23 := by kernel_rfl
theorem A23k : Callable Try.prog 23 := fun a w => Try.call23 a w
theorem A23p {ds : List D} {r : D} (hl : ds.length ≤ A23.nt) (hw : W Try.prog A23.code (Fin A23.results r) ⟨argEnv 0 ds, fun _ => none⟩) : PCon Try.prog 23 ds r := pcon_of_W mixed Try.func23 A23k A23c hl hw
/- estovers/protection.Effective$1 -/
abbrev A24r1 : List AIns := [⟨(some 3), (.mv (.cst (.int .i64 0))), none⟩]
abbrev A24d2 : List AIns := [⟨(some 4), (.load false 1 (.tmp 1)), none⟩, ⟨(some 5), (.mv (.tmp 0)), none⟩, ⟨(some 6), (.iaddr 5 (.tmp 4) (.tmp 5)), none⟩, ⟨(some 7), (.faddr 2 (.tmp 6)), none⟩, ⟨(some 8), (.load false 1 (.tmp 7)), none⟩, ⟨(some 9), (.load false 1 (.tmp 1)), none⟩, ⟨(some 10), (.mv (.tmp 0)), none⟩, ⟨(some 11), (.iaddr 5 (.tmp 9) (.tmp 10)), none⟩, ⟨(some 12), (.faddr 1 (.tmp 11)), none⟩, ⟨(some 13), (.load false 1 (.tmp 12)), none⟩, ⟨(some 14), (.mima false [(.tmp 8), (.tmp 13)]), none⟩, ⟨(some 3), (.mv (.tmp 14)), none⟩]
def A24 : AFun := ⟨15, 2, [(.tmp 3)], (.seq (.reg A24r1 [0, 1]) (.seq (.dreg A24d2 [[], [], [0, 1], [0, 1, 2], [0, 1, 2, 3], [], [], [5, 6], [5, 6, 7], [5, 6, 7, 8], [0, 1, 2, 3, 4, 5, 6, 7, 8, 9], [0, 1, 2, 3, 4, 5, 6, 7, 8, 9, 10]] [3]) .ret))⟩
theorem A24c : compF Try.prog Try.f24 = some A24 := by kernel_rfl
theorem A24k : Callable Try.prog 24 := fun a w => Try.call24 a w
theorem A24p {ds : List D} {r : D} (hl : ds.length ≤ A24.nt) (hw : W Try.prog A24.code (Fin A24.results r) ⟨argEnv 0 ds, fun _ => none⟩) : PCon Try.prog 24 ds r := pcon_of_W mixed Try.func24 A24k A24c hl hw
/- estovers/protection.valid -/
abbrev A25r1 : List AIns := [⟨(some 4), (.mv (.cst (.bool false))), none⟩]
abbrev A25r2 : List AIns := [⟨(some 7), (.mv (.tmp 0)), none⟩, ⟨(some 8), (.call (.fnc 23) [(.tmp 7)]), none⟩, ⟨(some 9), (.bin .neq (.tmp 8) (.cst (.int .i64 0))), none⟩, ⟨(some 10), (.mv (.tmp 9)), none⟩, ⟨(some 11), (.mv (.tmp 1)), (some (10, false))⟩, ⟨(some 12), (.len (.tmp 11)), (some (10, false))⟩, ⟨(some 13), (.mv (.tmp 0)), (some (10, false))⟩, ⟨(some 14), (.len (.tmp 13)), (some (10, false))⟩, ⟨(some 15), (.bin .neq (.tmp 12) (.tmp 14)), (some (10, false))⟩, ⟨(some 16), (.pick (.tmp 10) (.cst (.bool true)) (.tmp 15)), none⟩]
abbrev A25r3 : List AIns := [⟨(some 4), (.mv (.cst (.bool false))), none⟩]
abbrev A25r4 : List AIns := [⟨(some 17), (.mv (.tmp 1)), none⟩, ⟨(some 18), (.len (.tmp 17)), none⟩, ⟨(some 19), (.mv (.cst (.int .i64 0))), none⟩]
abbrev A25r6 : List AIns := [⟨(some 20), (.bin .lss (.tmp 19) (.tmp 18)), none⟩]
abbrev A25r7 : List AIns := [⟨(some 21), (.iaddr 1 (.tmp 17) (.tmp 19)), none⟩, ⟨(some 22), (.load false 1 (.tmp 21)), none⟩, ⟨(some 6), (.mv (.tmp 22)), none⟩]
abbrev A25r8 : List AIns := [⟨(some 23), (.mv (.tmp 6)), none⟩, ⟨(some 24), (.bin .lss (.tmp 23) (.cst (.int .i64 0))), none⟩, ⟨(some 25), (.mv (.tmp 24)), none⟩, ⟨(some 26), (.mv (.tmp 6)), (some (25, false))⟩, ⟨(some 27), (.bin .gtr (.tmp 26) (.cst (.int .i64 1048576))), (some (25, false))⟩, ⟨(some 28), (.pick (.tmp 25) (.cst (.bool true)) (.tmp 27)), none⟩]
abbrev A25r9 : List AIns := [⟨(some 4), (.mv (.cst (.bool false))), none⟩]
abbrev A25c10 : ACode := (.seq (.reg A25r7 [6, 17, 18, 19]) (.seq (.reg A25r8 [17, 18, 19, 28]) (.cond (.tmp 28) [] (.seq (.reg A25r9 [4]) .ret) [17, 18, 19] .skip)))
abbrev A25r11 : List AIns := [⟨(some 29), (.bin .add (.tmp 19) (.cst (.int .i64 1))), none⟩, ⟨(some 19), (.mv (.tmp 29)), none⟩]
abbrev A25l5 : ACode := (.seq (.reg A25r6 [17, 18, 19, 20]) (.seq (.cond (.tmp 20) [17, 18, 19] .skip [] (.exit 0)) (.seq (.block 1 A25c10) (.reg A25r11 [17, 18, 19]))))
abbrev A25r12 : List AIns := [⟨(some 4), (.mv (.cst (.bool true))), none⟩]
def A25 : AFun := ⟨30, 2, [(.tmp 4)], (.seq (.reg A25r1 [0, 1]) (.seq (.seq (.reg A25r2 [1, 16]) (.cond (.tmp 16) [] (.seq (.reg A25r3 [4]) .ret) [1] .skip)) (.seq (.seq (.reg A25r4 [17, 18, 19]) (.block 0 (.loop A25l5))) (.seq (.reg A25r12 [4]) .ret))))⟩
theorem A25c : compF Try.prog Try.f25 = some A25 := by kernel_rfl
theorem A25k : Callable Try.prog 25 := fun a w => Try.call25 a w
theorem A25p {ds : List D} {r : D} (hl : ds.length ≤ A25.nt) (hw : W Try.prog A25.code (Fin A25.results r) ⟨argEnv 0 ds, fun _ => none⟩) : PCon Try.prog 25 ds r := pcon_of_W mixed Try.func25 A25k A25c hl hw
/- estovers/accounts.Own -/
abbrev A26r1 : List AIns := [⟨(some 4), (.mv (.cst (.int .i64 0))), none⟩]
abbrev A26r2 : List AIns := [⟨(some 5), (.mv (.tmp 0)), none⟩, ⟨(some 6), (.mv (.tmp 1)), none⟩, ⟨(some 7), (.call (.fnc 43) [(.tmp 5), (.tmp 6)]), none⟩, ⟨(some 8), (.un .not (.tmp 7)), none⟩]
abbrev A26r3 : List AIns := [⟨(some 4), (.mv (.cst (.int .i64 (-1)))), none⟩]
abbrev A26r4 : List AIns := [⟨(some 9), (.mv (.tmp 0)), none⟩, ⟨(some 10), (.call (.fnc 42) [(.tmp 9)]), none⟩, ⟨(some 11), (.mv (.tmp 1)), none⟩, ⟨(some 12), (.iaddr 1 (.tmp 10) (.tmp 11)), none⟩, ⟨(some 13), (.load false 1 (.tmp 12)), none⟩, ⟨(some 4), (.mv (.tmp 13)), none⟩]
def A26 : AFun := ⟨14, 2, [(.tmp 4)], (.seq (.reg A26r1 [0, 1]) (.seq (.seq (.reg A26r2 [0, 1, 8]) (.cond (.tmp 8) [] (.seq (.reg A26r3 [4]) .ret) [0, 1] .skip)) (.seq (.reg A26r4 [4]) .ret)))⟩
theorem A26c : compF Try.prog Try.f26 = some A26 := by kernel_rfl
theorem A26k : Callable Try.prog 26 := fun a w => Try.call26 a w
theorem A26p {ds : List D} {r : D} (hl : ds.length ≤ A26.nt) (hw : W Try.prog A26.code (Fin A26.results r) ⟨argEnv 0 ds, fun _ => none⟩) : PCon Try.prog 26 ds r := pcon_of_W mixed Try.func26 A26k A26c hl hw
/- estovers/protection.Guarded -/
abbrev A27r1 : List AIns := [⟨(some 10), (.mv (.cst (.bool false))), none⟩]
abbrev A27r2 : List AIns := [⟨(some 16), (.mv (.tmp 0)), none⟩, ⟨(some 17), (.mv (.tmp 1)), none⟩, ⟨(some 18), (.call (.fnc 25) [(.tmp 16), (.tmp 17)]), none⟩, ⟨(some 19), (.un .not (.tmp 18)), none⟩, ⟨(some 20), (.mv (.tmp 19)), none⟩, ⟨(some 21), (.mv (.tmp 2)), (some (20, false))⟩, ⟨(some 22), (.bin .lss (.tmp 21) (.cst (.int .i64 0))), (some (20, false))⟩, ⟨(some 23), (.pick (.tmp 20) (.cst (.bool true)) (.tmp 22)), none⟩, ⟨(some 24), (.mv (.tmp 23)), none⟩, ⟨(some 25), (.mv (.tmp 2)), (some (24, false))⟩, ⟨(some 26), (.mv (.tmp 0)), (some (24, false))⟩, ⟨(some 27), (.len (.tmp 26)), (some (24, false))⟩, ⟨(some 28), (.bin .geq (.tmp 25) (.tmp 27)), (some (24, false))⟩, ⟨(some 29), (.pick (.tmp 24) (.cst (.bool true)) (.tmp 28)), none⟩, ⟨(some 30), (.mv (.tmp 29)), none⟩, ⟨(some 31), (.mv (.tmp 3)), (some (30, false))⟩, ⟨(some 32), (.bin .lss (.tmp 31) (.cst (.int .i64 (-1)))), (some (30, false))⟩, ⟨(some 33), (.pick (.tmp 30) (.cst (.bool true)) (.tmp 32)), none⟩, ⟨(some 34), (.mv (.tmp 33)), none⟩, ⟨(some 35), (.mv (.tmp 3)), (some (34, false))⟩, ⟨(some 36), (.mv (.tmp 0)), (some (34, false))⟩, ⟨(some 37), (.len (.tmp 36)), (some (34, false))⟩, ⟨(some 38), (.bin .geq (.tmp 35) (.tmp 37)), (some (34, false))⟩, ⟨(some 39), (.pick (.tmp 34) (.cst (.bool true)) (.tmp 38)), none⟩]
abbrev A27r3 : List AIns := [⟨(some 10), (.mv (.cst (.bool true))), none⟩]
abbrev A27r4 : List AIns := [⟨(some 40), (.mv (.tmp 0)), none⟩, ⟨(some 41), (.mv (.tmp 1)), none⟩, ⟨(some 42), (.call (.fnc 44) [(.tmp 40), (.tmp 41)]), none⟩, ⟨(some 11), (.mv (.tmp 42)), none⟩]
abbrev A27r5 : List AIns := [⟨(some 43), (.mv (.tmp 3)), none⟩, ⟨(some 44), (.mima true [(.tmp 43), (.cst (.int .i64 0))]), none⟩, ⟨(some 12), (.mv (.tmp 44)), none⟩]
abbrev A27r6 : List AIns := [⟨(some 13), (.mv (.cst (.bool false))), none⟩]
abbrev A27r7 : List AIns := [⟨(some 45), (.mv (.tmp 2)), none⟩, ⟨(some 14), (.mv (.tmp 45)), none⟩]
abbrev A27r9 : List AIns := [⟨(some 46), (.mv (.tmp 14)), none⟩, ⟨(some 47), (.mv (.tmp 12)), none⟩, ⟨(some 48), (.bin .gtr (.tmp 46) (.tmp 47)), none⟩]
abbrev A27r10 : List AIns := [⟨(some 49), (.mv (.tmp 0)), none⟩, ⟨(some 50), (.mv (.tmp 14)), none⟩, ⟨(some 51), (.iaddr 5 (.tmp 49) (.tmp 50)), none⟩, ⟨(some 52), (.faddr 2 (.tmp 51)), none⟩, ⟨(some 53), (.load false 1 (.tmp 52)), none⟩, ⟨(some 15), (.mv (.tmp 53)), none⟩]
abbrev A27r11 : List AIns := [⟨(some 54), (.mv (.tmp 4)), none⟩]
abbrev A27r12 : List AIns := [⟨(some 55), (.mv (.tmp 0)), none⟩, ⟨(some 56), (.mv (.tmp 14)), none⟩, ⟨(some 57), (.iaddr 5 (.tmp 55) (.tmp 56)), none⟩, ⟨(some 58), (.faddr 3 (.tmp 57)), none⟩, ⟨(some 59), (.load false 1 (.tmp 58)), none⟩, ⟨(some 15), (.mv (.tmp 59)), none⟩]
abbrev A27d13 : List AIns := [⟨(some 60), (.mv (.tmp 13)), none⟩, ⟨(some 61), (.mv (.tmp 60)), none⟩, ⟨(some 62), (.mv (.tmp 0)), (some (61, false))⟩, ⟨(some 63), (.mv (.tmp 14)), (some (61, false))⟩, ⟨(some 64), (.iaddr 5 (.tmp 62) (.tmp 63)), (some (61, false))⟩, ⟨(some 65), (.faddr 1 (.tmp 64)), (some (61, false))⟩, ⟨(some 66), (.load false 1 (.tmp 65)), (some (61, false))⟩, ⟨(some 67), (.mv (.tmp 11)), (some (61, false))⟩, ⟨(some 68), (.mv (.tmp 14)), (some (61, false))⟩, ⟨(some 69), (.iaddr 1 (.tmp 67) (.tmp 68)), (some (61, false))⟩, ⟨(some 70), (.load false 1 (.tmp 69)), (some (61, false))⟩, ⟨(some 71), (.bin .sub (.tmp 66) (.tmp 70)), (some (61, false))⟩, ⟨(some 72), (.mv (.tmp 15)), (some (61, false))⟩, ⟨(some 73), (.bin .leq (.tmp 71) (.tmp 72)), (some (61, false))⟩, ⟨(some 74), (.pick (.tmp 61) (.cst (.bool true)) (.tmp 73)), none⟩, ⟨(some 13), (.mv (.tmp 74)), none⟩]
abbrev A27r14 : List AIns := [⟨(some 75), (.mv (.tmp 0)), none⟩, ⟨(some 76), (.mv (.tmp 14)), none⟩, ⟨(some 77), (.iaddr 5 (.tmp 75) (.tmp 76)), none⟩, ⟨(some 78), (.faddr 0 (.tmp 77)), none⟩, ⟨(some 79), (.load false 1 (.tmp 78)), none⟩, ⟨(some 14), (.mv (.tmp 79)), none⟩]
abbrev A27c15 : ACode := (.seq (.reg A27r10 [0, 4, 11, 12, 13, 14, 15]) (.seq (.seq (.reg A27r11 [0, 4, 11, 12, 13, 14, 15, 54]) (.cond (.tmp 54) [0, 4, 11, 12, 13, 14] (.reg A27r12 [0, 4, 11, 12, 13, 14, 15]) [0, 4, 11, 12, 13, 14, 15] .skip)) (.seq (.dreg A27d13 [[], [0], [0, 1], [0, 1], [0, 1, 2, 3], [0, 1, 2, 3, 4], [0, 1, 2, 3, 4, 5], [0, 1], [0, 1], [0, 1, 7, 8], [0, 1, 7, 8, 9], [0, 1, 2, 3, 4, 5, 6, 7, 8, 9, 10], [0, 1], [0, 1, 2, 3, 4, 5, 6, 7, 8, 9, 10, 11, 12], [0, 1, 2, 3, 4, 5, 6, 7, 8, 9, 10, 11, 12, 13], [0, 1, 2, 3, 4, 5, 6, 7, 8, 9, 10, 11, 12, 13, 14]] [0, 4, 11, 12, 13, 14]) (.reg A27r14 [0, 4, 11, 12, 13, 14]))))
abbrev A27l8 : ACode := (.seq (.seq (.reg A27r9 [0, 4, 11, 12, 13, 14, 48]) (.cond (.tmp 48) [0, 4, 11, 12, 13, 14] .skip [12, 13, 14] (.exit 0))) (.block 1 A27c15))
abbrev A27r16 : List AIns := [⟨(some 80), (.mv (.tmp 13)), none⟩, ⟨(some 81), (.mv (.tmp 80)), none⟩, ⟨(some 82), (.mv (.tmp 14)), (some (81, false))⟩, ⟨(some 83), (.mv (.tmp 12)), (some (81, false))⟩, ⟨(some 84), (.bin .neq (.tmp 82) (.tmp 83)), (some (81, false))⟩, ⟨(some 85), (.pick (.tmp 81) (.cst (.bool true)) (.tmp 84)), none⟩, ⟨(some 10), (.mv (.tmp 85)), none⟩]
def A27 : AFun := ⟨86, 5, [(.tmp 10)], (.seq (.reg A27r1 [0, 1, 2, 3, 4]) (.seq (.seq (.reg A27r2 [0, 1, 2, 3, 4, 39]) (.cond (.tmp 39) [] (.seq (.reg A27r3 [10]) .ret) [0, 1, 2, 3, 4] .skip)) (.seq (.reg A27r4 [0, 2, 3, 4, 11]) (.seq (.reg A27r5 [0, 2, 4, 11, 12]) (.seq (.reg A27r6 [0, 2, 4, 11, 12, 13]) (.seq (.reg A27r7 [0, 4, 11, 12, 13, 14]) (.seq (.block 0 (.loop A27l8)) (.seq (.reg A27r16 [10]) .ret))))))))⟩
theorem A27c : compF Try.prog Try.f27 = some A27 := by kernel_rfl
theorem A27k : Callable Try.prog 27 := fun a w => Try.call27 a w
theorem A27p {ds : List D} {r : D} (hl : ds.length ≤ A27.nt) (hw : W Try.prog A27.code (Fin A27.results r) ⟨argEnv 0 ds, fun _ => none⟩) : PCon Try.prog 27 ds r := pcon_of_W mixed Try.func27 A27k A27c hl hw
/- slices.Clone[[]int,int] -/
/- estovers/generations.all$1 -/
/- slices.Grow[[]int,int] -/
theorem A30k : Callable Try.prog 30 := fun a w => Try.call30 a w
/- estovers/reclaimplan.Check -/
abbrev A31r1 : List AIns := [⟨(some 4), (.mv (.cst (.int .i64 0))), none⟩]
abbrev A31r2 : List AIns := [⟨(some 9), (.mv (.tmp 1)), none⟩, ⟨(some 10), (.call (.fnc 23) [(.tmp 9)]), none⟩, ⟨(some 5), (.mv (.tmp 10)), none⟩]
abbrev A31r3 : List AIns := [⟨(some 11), (.mv (.tmp 5)), none⟩, ⟨(some 12), (.bin .neq (.tmp 11) (.cst (.int .i64 0))), none⟩]
abbrev A31r4 : List AIns := [⟨(some 13), (.mv (.tmp 5)), none⟩, ⟨(some 4), (.mv (.tmp 13)), none⟩]
abbrev A31r5 : List AIns := [⟨(some 6), (.mv (.cst (.int .i64 (-1)))), none⟩]
abbrev A31r6 : List AIns := [⟨(some 14), (.mv (.tmp 0)), none⟩, ⟨(some 15), (.len (.tmp 14)), none⟩, ⟨(some 16), (.mv (.cst (.int .i64 0))), none⟩]
abbrev A31r8 : List AIns := [⟨(some 17), (.bin .lss (.tmp 16) (.tmp 15)), none⟩]
abbrev A31r9 : List AIns := [⟨(some 18), (.iaddr 7 (.tmp 14) (.tmp 16)), none⟩, ⟨(some 19), (.load true 7 (.tmp 18)), none⟩, ⟨(some 8), (.alloc [(.int .i64 0), (.int .i64 0), (.int .i64 0), (.int .i64 0), (.int .i64 0), (.bool false), (.bool false)]), none⟩, ⟨none, (.store 7 (.tmp 8) (.tmp 19)), none⟩]
abbrev A31r10 : List AIns := [⟨(some 21), (.faddr 0 (.tmp 8)), none⟩, ⟨(some 22), (.load false 1 (.tmp 21)), none⟩, ⟨(some 23), (.bin .lss (.tmp 22) (.cst (.int .i64 0))), none⟩, ⟨(some 24), (.mv (.tmp 23)), none⟩, ⟨(some 25), (.faddr 0 (.tmp 8)), (some (24, false))⟩, ⟨(some 26), (.load false 1 (.tmp 25)), (some (24, false))⟩, ⟨(some 27), (.bin .geq (.tmp 26) (.cst (.int .i64 256))), (some (24, false))⟩, ⟨(some 28), (.pick (.tmp 24) (.cst (.bool true)) (.tmp 27)), none⟩, ⟨(some 29), (.mv (.tmp 28)), none⟩, ⟨(some 30), (.faddr 1 (.tmp 8)), (some (29, false))⟩, ⟨(some 31), (.load false 1 (.tmp 30)), (some (29, false))⟩, ⟨(some 32), (.bin .lss (.tmp 31) (.cst (.int .i64 (-1)))), (some (29, false))⟩, ⟨(some 33), (.pick (.tmp 29) (.cst (.bool true)) (.tmp 32)), none⟩, ⟨(some 34), (.mv (.tmp 33)), none⟩, ⟨(some 35), (.faddr 1 (.tmp 8)), (some (34, false))⟩, ⟨(some 36), (.load false 1 (.tmp 35)), (some (34, false))⟩, ⟨(some 37), (.mv (.tmp 1)), (some (34, false))⟩, ⟨(some 38), (.len (.tmp 37)), (some (34, false))⟩, ⟨(some 39), (.bin .geq (.tmp 36) (.tmp 38)), (some (34, false))⟩, ⟨(some 40), (.pick (.tmp 34) (.cst (.bool true)) (.tmp 39)), none⟩, ⟨(some 20), (.mv (.tmp 40)), none⟩]
abbrev A31r11 : List AIns := [⟨(some 4), (.mv (.cst (.int .i64 2))), none⟩]
abbrev A31r12 : List AIns := [⟨(some 42), (.faddr 0 (.tmp 8)), none⟩, ⟨(some 43), (.load false 1 (.tmp 42)), none⟩, ⟨(some 44), (.mv (.tmp 6)), none⟩, ⟨(some 45), (.bin .leq (.tmp 43) (.tmp 44)), none⟩, ⟨(some 41), (.mv (.tmp 45)), none⟩]
abbrev A31r13 : List AIns := [⟨(some 4), (.mv (.cst (.int .i64 10))), none⟩]
abbrev A31r14 : List AIns := [⟨(some 47), (.faddr 3 (.tmp 8)), none⟩, ⟨(some 48), (.load false 1 (.tmp 47)), none⟩, ⟨(some 49), (.bin .lss (.tmp 48) (.cst (.int .i64 0))), none⟩, ⟨(some 50), (.mv (.tmp 49)), none⟩, ⟨(some 51), (.faddr 3 (.tmp 8)), (some (50, false))⟩, ⟨(some 52), (.load false 1 (.tmp 51)), (some (50, false))⟩, ⟨(some 53), (.bin .gtr (.tmp 52) (.cst (.int .i64 10))), (some (50, false))⟩, ⟨(some 54), (.pick (.tmp 50) (.cst (.bool true)) (.tmp 53)), none⟩, ⟨(some 55), (.mv (.tmp 54)), none⟩, ⟨(some 56), (.faddr 2 (.tmp 8)), (some (55, false))⟩, ⟨(some 57), (.load false 1 (.tmp 56)), (some (55, false))⟩, ⟨(some 58), (.bin .lss (.tmp 57) (.cst (.int .i64 (-1)))), (some (55, false))⟩, ⟨(some 59), (.pick (.tmp 55) (.cst (.bool true)) (.tmp 58)), none⟩, ⟨(some 60), (.mv (.tmp 59)), none⟩, ⟨(some 61), (.faddr 4 (.tmp 8)), (some (60, false))⟩, ⟨(some 62), (.load false 1 (.tmp 61)), (some (60, false))⟩, ⟨(some 63), (.bin .lss (.tmp 62) (.cst (.int .i64 (-1)))), (some (60, false))⟩, ⟨(some 64), (.pick (.tmp 60) (.cst (.bool true)) (.tmp 63)), none⟩, ⟨(some 46), (.mv (.tmp 64)), none⟩]
abbrev A31r15 : List AIns := [⟨(some 4), (.mv (.cst (.int .i64 1))), none⟩]
abbrev A31r16 : List AIns := [⟨(some 66), (.faddr 3 (.tmp 8)), none⟩, ⟨(some 67), (.load false 1 (.tmp 66)), none⟩, ⟨(some 68), (.bin .eql (.tmp 67) (.cst (.int .i64 0))), none⟩, ⟨(some 69), (.mv (.tmp 68)), none⟩, ⟨(some 70), (.faddr 6 (.tmp 8)), (some (69, true))⟩, ⟨(some 71), (.load false 1 (.tmp 70)), (some (69, true))⟩, ⟨(some 72), (.un .not (.tmp 71)), (some (69, true))⟩, ⟨(some 73), (.pick (.tmp 69) (.tmp 72) (.cst (.bool false))), none⟩, ⟨(some 74), (.mv (.tmp 73)), none⟩, ⟨(some 75), (.faddr 2 (.tmp 8)), (some (74, true))⟩, ⟨(some 76), (.load false 1 (.tmp 75)), (some (74, true))⟩, ⟨(some 77), (.bin .eql (.tmp 76) (.cst (.int .i64 (-1)))), (some (74, true))⟩, ⟨(some 78), (.pick (.tmp 74) (.tmp 77) (.cst (.bool false))), none⟩, ⟨(some 65), (.mv (.tmp 78)), none⟩]
abbrev A31r17 : List AIns := [⟨(some 4), (.mv (.cst (.int .i64 3))), none⟩]
abbrev A31c18 : ACode := (.seq (.reg A31r16 [1, 8, 14, 15, 16, 65]) (.cond (.tmp 65) [] (.seq (.reg A31r17 [4]) .ret) [1, 8, 14, 15, 16] .skip))
abbrev A31c19 : ACode := (.seq (.reg A31r14 [1, 8, 14, 15, 16, 46]) (.cond (.tmp 46) [] (.seq (.reg A31r15 [4]) .ret) [1, 8, 14, 15, 16] A31c18))
abbrev A31c20 : ACode := (.seq (.reg A31r12 [1, 8, 14, 15, 16, 41]) (.cond (.tmp 41) [] (.seq (.reg A31r13 [4]) .ret) [1, 8, 14, 15, 16] A31c19))
abbrev A31c21 : ACode := (.seq (.reg A31r10 [1, 6, 8, 14, 15, 16, 20]) (.cond (.tmp 20) [] (.seq (.reg A31r11 [4]) .ret) [1, 6, 8, 14, 15, 16] A31c20))
abbrev A31r22 : List AIns := [⟨(some 79), (.faddr 0 (.tmp 8)), none⟩, ⟨(some 80), (.load false 1 (.tmp 79)), none⟩, ⟨(some 6), (.mv (.tmp 80)), none⟩]
abbrev A31c23 : ACode := (.seq (.reg A31r9 [1, 6, 8, 14, 15, 16]) (.seq (.block 2 A31c21) (.reg A31r22 [1, 6, 14, 15, 16])))
abbrev A31r24 : List AIns := [⟨(some 81), (.bin .add (.tmp 16) (.cst (.int .i64 1))), none⟩, ⟨(some 16), (.mv (.tmp 81)), none⟩]
abbrev A31l7 : ACode := (.seq (.reg A31r8 [1, 6, 14, 15, 16, 17]) (.seq (.cond (.tmp 17) [1, 6, 14, 15, 16] .skip [] (.exit 0)) (.seq (.block 1 A31c23) (.reg A31r24 [1, 6, 14, 15, 16]))))
abbrev A31r25 : List AIns := [⟨(some 4), (.mv (.cst (.int .i64 0))), none⟩]
def A31 : AFun := ⟨82, 2, [(.tmp 4)], (.seq (.reg A31r1 [0, 1]) (.seq (.seq (.reg A31r2 [0, 1, 5]) (.seq (.reg A31r3 [0, 1, 5, 12]) (.cond (.tmp 12) [5] (.seq (.reg A31r4 [4]) .ret) [0, 1] .skip))) (.seq (.reg A31r5 [0, 1, 6]) (.seq (.seq (.reg A31r6 [1, 6, 14, 15, 16]) (.block 0 (.loop A31l7))) (.seq (.reg A31r25 [4]) .ret)))))⟩
theorem A31c : compF Try.prog Try.f31 = some A31 := by kernel_rfl
theorem A31k : Callable Try.prog 31 := fun a w => Try.call31 a w
theorem A31p {ds : List D} {r : D} (hl : ds.length ≤ A31.nt) (hw : W Try.prog A31.code (Fin A31.results r) ⟨argEnv 0 ds, fun _ => none⟩) : PCon Try.prog 31 ds r := pcon_of_W mixed Try.func31 A31k A31c hl hw
/- estovers/accounts.Inside -/
abbrev A32r1 : List AIns := [⟨(some 6), (.mv (.cst (.bool false))), none⟩]
abbrev A32r2 : List AIns := [⟨(some 7), (.mv (.tmp 0)), none⟩, ⟨(some 8), (.mv (.tmp 1)), none⟩, ⟨(some 9), (.call (.fnc 43) [(.tmp 7), (.tmp 8)]), none⟩, ⟨(some 10), (.mv (.tmp 9)), none⟩, ⟨(some 11), (.mv (.tmp 2)), (some (10, true))⟩, ⟨(some 12), (.bin .eql (.tmp 11) (.cst (.int .i64 (-1)))), (some (10, true))⟩, ⟨(some 13), (.mv (.tmp 12)), (some (10, true))⟩, ⟨(some 14), (.mv (.tmp 0)), (some (13, false))⟩, ⟨(some 15), (.mv (.tmp 1)), (some (13, false))⟩, ⟨(some 16), (.call (.fnc 46) [(.tmp 14), (.tmp 15)]), (some (13, false))⟩, ⟨(some 17), (.mv (.tmp 2)), (some (13, false))⟩, ⟨(some 18), (.call (.fnc 45) [(.tmp 16), (.tmp 17)]), (some (13, false))⟩, ⟨(some 19), (.pick (.tmp 13) (.cst (.bool true)) (.tmp 18)), (some (10, true))⟩, ⟨(some 20), (.pick (.tmp 10) (.tmp 19) (.cst (.bool false))), none⟩, ⟨(some 6), (.mv (.tmp 20)), none⟩]
def A32 : AFun := ⟨21, 3, [(.tmp 6)], (.seq (.reg A32r1 [0, 1, 2]) (.seq (.reg A32r2 [6]) .ret))⟩
theorem A32c : compF Try.prog Try.f32 = some A32 := by kernel_rfl
theorem A32k : Callable Try.prog 32 := fun a w => Try.call32 a w
theorem A32p {ds : List D} {r : D} (hl : ds.length ≤ A32.nt) (hw : W Try.prog A32.code (Fin A32.results r) ⟨argEnv 0 ds, fun _ => none⟩) : PCon Try.prog 32 ds r := pcon_of_W mixed Try.func32 A32k A32c hl hw
/- (*estovers/reclaimplan.question).outside -/
abbrev A33r1 : List AIns := [⟨(some 3), (.box (.tmp 1)), none⟩, ⟨(some 4), (.mv (.cst (.bool false))), none⟩]
abbrev A33d2 : List AIns := [⟨(some 5), (.mv (.tmp 0)), none⟩, ⟨(some 6), (.nilck (.tmp 5)), none⟩, ⟨(some 7), (.faddr 1 (.tmp 6)), none⟩, ⟨(some 8), (.load false 1 (.tmp 7)), none⟩, ⟨(some 9), (.bin .geq (.tmp 8) (.cst (.int .i64 0))), none⟩, ⟨(some 10), (.mv (.tmp 9)), none⟩, ⟨(some 11), (.faddr 1 (.tmp 3)), (some (10, true))⟩, ⟨(some 12), (.load false 1 (.tmp 11)), (some (10, true))⟩, ⟨(some 13), (.bin .lss (.tmp 12) (.cst (.int .i64 0))), (some (10, true))⟩, ⟨(some 14), (.mv (.tmp 13)), (some (10, true))⟩, ⟨(some 15), (.mv (.tmp 0)), (some (14, false))⟩, ⟨(some 16), (.nilck (.tmp 15)), (some (14, false))⟩, ⟨(some 17), (.faddr 3 (.tmp 16)), (some (14, false))⟩, ⟨(some 18), (.load false 1 (.tmp 17)), (some (14, false))⟩, ⟨(some 19), (.faddr 1 (.tmp 3)), (some (14, false))⟩, ⟨(some 20), (.load false 1 (.tmp 19)), (some (14, false))⟩, ⟨(some 21), (.iaddr 1 (.tmp 18) (.tmp 20)), (some (14, false))⟩, ⟨(some 22), (.load false 1 (.tmp 21)), (some (14, false))⟩, ⟨(some 23), (.un .not (.tmp 22)), (some (14, false))⟩, ⟨(some 24), (.pick (.tmp 14) (.cst (.bool true)) (.tmp 23)), (some (10, true))⟩, ⟨(some 25), (.pick (.tmp 10) (.tmp 24) (.cst (.bool false))), none⟩, ⟨(some 4), (.mv (.tmp 25)), none⟩]
def A33 : AFun := ⟨26, 2, [(.tmp 4)], (.seq (.reg A33r1 [0, 3]) (.seq (.dreg A33d2 [[], [0], [0, 1], [0, 1, 2], [0, 1, 2, 3], [0, 1, 2, 3, 4], [0, 1, 2, 3, 4, 5], [0, 1, 2, 3, 4, 5, 6], [0, 1, 2, 3, 4, 5, 6, 7], [0, 1, 2, 3, 4, 5, 6, 7, 8], [0, 1, 2, 3, 4, 5, 6, 7, 8, 9], [0, 1, 2, 3, 4, 5, 6, 7, 8, 9, 10], [0, 1, 2, 3, 4, 5, 6, 7, 8, 9, 10, 11], [0, 1, 2, 3, 4, 5, 6, 7, 8, 9, 10, 11, 12], [0, 1, 2, 3, 4, 5, 6, 7, 8, 9], [0, 1, 2, 3, 4, 5, 6, 7, 8, 9, 14], [0, 1, 2, 3, 4, 5, 6, 7, 8, 9, 10, 11, 12, 13, 14, 15], [0, 1, 2, 3, 4, 5, 6, 7, 8, 9, 10, 11, 12, 13, 14, 15, 16], [0, 1, 2, 3, 4, 5, 6, 7, 8, 9, 10, 11, 12, 13, 14, 15, 16, 17], [0, 1, 2, 3, 4, 5, 6, 7, 8, 9, 10, 11, 12, 13, 14, 15, 16, 17, 18], [0, 1, 2, 3, 4, 5, 6, 7, 8, 9, 10, 11, 12, 13, 14, 15, 16, 17, 18, 19], [0, 1, 2, 3, 4, 5, 6, 7, 8, 9, 10, 11, 12, 13, 14, 15, 16, 17, 18, 19, 20]] [4]) .ret))⟩
theorem A33c : compF Try.prog Try.f33 = some A33 := by kernel_rfl
theorem A33k : Callable Try.prog 33 := fun a w => Try.call33 a w
theorem A33p {ds : List D} {r : D} (hl : ds.length ≤ A33.nt) (hw : W Try.prog A33.code (Fin A33.results r) ⟨argEnv 0 ds, fun _ => none⟩) : PCon Try.prog 33 ds r := pcon_of_W mixed Try.func33 A33k A33c hl hw
/- (*estovers/reclaimplan.question).guarded -/
abbrev A34r1 : List AIns := [⟨(some 3), (.box (.tmp 1)), none⟩, ⟨(some 4), (.mv (.cst (.bool false))), none⟩]
abbrev A34d2 : List AIns := [⟨(some 5), (.faddr 1 (.tmp 3)), none⟩, ⟨(some 6), (.load false 1 (.tmp 5)), none⟩, ⟨(some 7), (.bin .geq (.tmp 6) (.cst (.int .i64 0))), none⟩, ⟨(some 8), (.mv (.tmp 7)), none⟩, ⟨(some 9), (.mv (.tmp 0)), (some (8, true))⟩, ⟨(some 10), (.nilck (.tmp 9)), (some (8, true))⟩, ⟨(some 11), (.faddr 4 (.tmp 10)), (some (8, true))⟩, ⟨(some 12), (.load false 1 (.tmp 11)), (some (8, true))⟩, ⟨(some 13), (.faddr 1 (.tmp 3)), (some (8, true))⟩, ⟨(some 14), (.load false 1 (.tmp 13)), (some (8, true))⟩, ⟨(some 15), (.iaddr 1 (.tmp 12) (.tmp 14)), (some (8, true))⟩, ⟨(some 16), (.load false 1 (.tmp 15)), (some (8, true))⟩, ⟨(some 17), (.pick (.tmp 8) (.tmp 16) (.cst (.bool false))), none⟩, ⟨(some 4), (.mv (.tmp 17)), none⟩]
def A34 : AFun := ⟨18, 2, [(.tmp 4)], (.seq (.reg A34r1 [0, 3]) (.seq (.dreg A34d2 [[], [0], [0, 1], [0, 1, 2], [0, 1, 2, 3], [0, 1, 2, 3, 4], [0, 1, 2, 3, 4, 5], [0, 1, 2, 3, 4, 5, 6], [0, 1, 2, 3], [0, 1, 2, 3, 8], [0, 1, 2, 3, 4, 5, 6, 7, 8, 9], [0, 1, 2, 3, 4, 5, 6, 7, 8, 9, 10], [0, 1, 2, 3, 4, 5, 6, 7, 8, 9, 10, 11], [0, 1, 2, 3, 4, 5, 6, 7, 8, 9, 10, 11, 12]] [4]) .ret))⟩
theorem A34c : compF Try.prog Try.f34 = some A34 := by kernel_rfl
theorem A34k : Callable Try.prog 34 := fun a w => Try.call34 a w
theorem A34p {ds : List D} {r : D} (hl : ds.length ≤ A34.nt) (hw : W Try.prog A34.code (Fin A34.results r) ⟨argEnv 0 ds, fun _ => none⟩) : PCon Try.prog 34 ds r := pcon_of_W mixed Try.func34 A34k A34c hl hw
/- estovers/estoversref19.has -/
abbrev A35r1 : List AIns := [⟨(some 4), (.mv (.cst (.bool false))), none⟩]
abbrev A35r2 : List AIns := [⟨(some 5), (.mv (.tmp 0)), none⟩, ⟨(some 6), (.call (.fnc 47) [(.tmp 5)]), none⟩, ⟨(some 7), (.bin .eql (.tmp 6) (.cst (.int .i64 0))), none⟩, ⟨(some 8), (.mv (.tmp 7)), none⟩, ⟨(some 9), (.mv (.tmp 1)), (some (8, true))⟩, ⟨(some 10), (.bin .geq (.tmp 9) (.cst (.int .i64 0))), (some (8, true))⟩, ⟨(some 11), (.pick (.tmp 8) (.tmp 10) (.cst (.bool false))), none⟩, ⟨(some 12), (.mv (.tmp 11)), none⟩, ⟨(some 13), (.mv (.tmp 1)), (some (12, true))⟩, ⟨(some 14), (.mv (.tmp 0)), (some (12, true))⟩, ⟨(some 15), (.len (.tmp 14)), (some (12, true))⟩, ⟨(some 16), (.bin .lss (.tmp 13) (.tmp 15)), (some (12, true))⟩, ⟨(some 17), (.pick (.tmp 12) (.tmp 16) (.cst (.bool false))), none⟩, ⟨(some 4), (.mv (.tmp 17)), none⟩]
def A35 : AFun := ⟨18, 2, [(.tmp 4)], (.seq (.reg A35r1 [0, 1]) (.seq (.reg A35r2 [4]) .ret))⟩
theorem A35c : compF Try.prog Try.f35 = some A35 := by kernel_rfl
theorem A35k : Callable Try.prog 35 := fun a w => Try.call35 a w
theorem A35p {ds : List D} {r : D} (hl : ds.length ≤ A35.nt) (hw : W Try.prog A35.code (Fin A35.results r) ⟨argEnv 0 ds, fun _ => none⟩) : PCon Try.prog 35 ds r := pcon_of_W mixed Try.func35 A35k A35c hl hw
/- estovers/estoversref19.kids -/
abbrev A36r1 : List AIns := [⟨(some 4), (.mv (.cst (.int .i64 0))), none⟩]
abbrev A36r2 : List AIns := [⟨(some 5), (.mv (.cst (.int .i64 0))), none⟩]
abbrev A36r3 : List AIns := [⟨(some 6), (.mv (.cst (.int .i64 1))), none⟩]
abbrev A36r5 : List AIns := [⟨(some 7), (.mv (.tmp 6)), none⟩, ⟨(some 8), (.mv (.tmp 0)), none⟩, ⟨(some 9), (.len (.tmp 8)), none⟩, ⟨(some 10), (.bin .lss (.tmp 7) (.tmp 9)), none⟩]
abbrev A36r6 : List AIns := [⟨(some 13), (.mv (.tmp 0)), none⟩, ⟨(some 14), (.mv (.tmp 6)), none⟩, ⟨(some 15), (.iaddr 5 (.tmp 13) (.tmp 14)), none⟩, ⟨(some 16), (.faddr 0 (.tmp 15)), none⟩, ⟨(some 17), (.load false 1 (.tmp 16)), none⟩, ⟨(some 18), (.mv (.tmp 1)), none⟩, ⟨(some 19), (.bin .eql (.tmp 17) (.tmp 18)), none⟩]
abbrev A36r7 : List AIns := [⟨(some 20), (.mv (.tmp 5)), none⟩, ⟨(some 21), (.mv (.tmp 0)), none⟩, ⟨(some 22), (.mv (.tmp 6)), none⟩, ⟨(some 23), (.iaddr 5 (.tmp 21) (.tmp 22)), none⟩, ⟨(some 24), (.faddr 1 (.tmp 23)), none⟩, ⟨(some 25), (.load false 1 (.tmp 24)), none⟩, ⟨(some 26), (.bin .add (.tmp 20) (.tmp 25)), none⟩, ⟨(some 5), (.mv (.tmp 26)), none⟩]
abbrev A36c8 : ACode := (.seq (.reg A36r6 [0, 1, 5, 6, 19]) (.cond (.tmp 19) [0, 1, 5, 6] (.reg A36r7 [0, 1, 5, 6]) [0, 1, 5, 6] .skip))
abbrev A36r9 : List AIns := [⟨(some 11), (.mv (.tmp 6)), none⟩, ⟨(some 12), (.bin .add (.tmp 11) (.cst (.int .i64 1))), none⟩, ⟨(some 6), (.mv (.tmp 12)), none⟩]
abbrev A36l4 : ACode := (.seq (.seq (.reg A36r5 [0, 1, 5, 6, 10]) (.cond (.tmp 10) [0, 1, 5, 6] .skip [5] (.exit 0))) (.seq (.block 1 A36c8) (.reg A36r9 [0, 1, 5, 6])))
abbrev A36r10 : List AIns := [⟨(some 27), (.mv (.tmp 5)), none⟩, ⟨(some 4), (.mv (.tmp 27)), none⟩]
def A36 : AFun := ⟨28, 2, [(.tmp 4)], (.seq (.reg A36r1 [0, 1]) (.seq (.reg A36r2 [0, 1, 5]) (.seq (.seq (.reg A36r3 [0, 1, 5, 6]) (.block 0 (.loop A36l4))) (.seq (.reg A36r10 [4]) .ret))))⟩
theorem A36c : compF Try.prog Try.f36 = some A36 := by kernel_rfl
theorem A36k : Callable Try.prog 36 := fun a w => Try.call36 a w
theorem A36p {ds : List D} {r : D} (hl : ds.length ≤ A36.nt) (hw : W Try.prog A36.code (Fin A36.results r) ⟨argEnv 0 ds, fun _ => none⟩) : PCon Try.prog 36 ds r := pcon_of_W mixed Try.func36 A36k A36c hl hw
/- estovers/accounts.tree -/
abbrev A37r1 : List AIns := [⟨(some 2), (.mv (.cst (.bool false))), none⟩]
abbrev A37r2 : List AIns := [⟨(some 5), (.mv (.tmp 0)), none⟩, ⟨(some 6), (.len (.tmp 5)), none⟩, ⟨(some 7), (.mv (.cst (.int .i64 0))), none⟩]
abbrev A37r4 : List AIns := [⟨(some 8), (.bin .lss (.tmp 7) (.tmp 6)), none⟩]
abbrev A37r5 : List AIns := [⟨(some 9), (.mv (.tmp 7)), none⟩, ⟨(some 10), (.iaddr 5 (.tmp 5) (.tmp 7)), none⟩, ⟨(some 11), (.load true 5 (.tmp 10)), none⟩, ⟨(some 4), (.alloc [(.int .i64 0), (.int .i64 0), (.int .i64 0), (.int .i64 0), (.int .i64 0)]), none⟩, ⟨(some 3), (.mv (.tmp 9)), none⟩, ⟨none, (.store 5 (.tmp 4) (.tmp 11)), none⟩]
abbrev A37r6 : List AIns := [⟨(some 12), (.mv (.tmp 3)), none⟩, ⟨(some 13), (.bin .eql (.tmp 12) (.cst (.int .i64 0))), none⟩, ⟨(some 14), (.mv (.tmp 13)), none⟩, ⟨(some 15), (.faddr 0 (.tmp 4)), (some (14, true))⟩, ⟨(some 16), (.load false 1 (.tmp 15)), (some (14, true))⟩, ⟨(some 17), (.bin .neq (.tmp 16) (.cst (.int .i64 (-1)))), (some (14, true))⟩, ⟨(some 18), (.pick (.tmp 14) (.tmp 17) (.cst (.bool false))), none⟩, ⟨(some 19), (.mv (.tmp 18)), none⟩, ⟨(some 20), (.mv (.tmp 3)), (some (19, false))⟩, ⟨(some 21), (.bin .gtr (.tmp 20) (.cst (.int .i64 0))), (some (19, false))⟩, ⟨(some 22), (.mv (.tmp 21)), (some (19, false))⟩, ⟨(some 23), (.faddr 0 (.tmp 4)), (some (22, true))⟩, ⟨(some 24), (.load false 1 (.tmp 23)), (some (22, true))⟩, ⟨(some 25), (.bin .lss (.tmp 24) (.cst (.int .i64 0))), (some (22, true))⟩, ⟨(some 26), (.mv (.tmp 25)), (some (22, true))⟩, ⟨(some 27), (.faddr 0 (.tmp 4)), (some (26, false))⟩, ⟨(some 28), (.load false 1 (.tmp 27)), (some (26, false))⟩, ⟨(some 29), (.mv (.tmp 3)), (some (26, false))⟩, ⟨(some 30), (.bin .geq (.tmp 28) (.tmp 29)), (some (26, false))⟩, ⟨(some 31), (.pick (.tmp 26) (.cst (.bool true)) (.tmp 30)), (some (22, true))⟩, ⟨(some 32), (.pick (.tmp 22) (.tmp 31) (.cst (.bool false))), (some (19, false))⟩, ⟨(some 33), (.pick (.tmp 19) (.cst (.bool true)) (.tmp 32)), none⟩]
abbrev A37r7 : List AIns := [⟨(some 2), (.mv (.cst (.bool false))), none⟩]
abbrev A37c8 : ACode := (.seq (.reg A37r5 [3, 4, 5, 6, 7]) (.seq (.reg A37r6 [5, 6, 7, 33]) (.cond (.tmp 33) [] (.seq (.reg A37r7 [2]) .ret) [5, 6, 7] .skip)))
abbrev A37r9 : List AIns := [⟨(some 34), (.bin .add (.tmp 7) (.cst (.int .i64 1))), none⟩, ⟨(some 7), (.mv (.tmp 34)), none⟩]
abbrev A37l3 : ACode := (.seq (.reg A37r4 [5, 6, 7, 8]) (.seq (.cond (.tmp 8) [5, 6, 7] .skip [] (.exit 0)) (.seq (.block 1 A37c8) (.reg A37r9 [5, 6, 7]))))
abbrev A37r10 : List AIns := [⟨(some 2), (.mv (.cst (.bool true))), none⟩]
def A37 : AFun := ⟨35, 1, [(.tmp 2)], (.seq (.reg A37r1 [0]) (.seq (.seq (.reg A37r2 [5, 6, 7]) (.block 0 (.loop A37l3))) (.seq (.reg A37r10 [2]) .ret)))⟩
theorem A37c : compF Try.prog Try.f37 = some A37 := by kernel_rfl
theorem A37k : Callable Try.prog 37 := fun a w => Try.call37 a w
theorem A37p {ds : List D} {r : D} (hl : ds.length ≤ A37.nt) (hw : W Try.prog A37.code (Fin A37.results r) ⟨argEnv 0 ds, fun _ => none⟩) : PCon Try.prog 37 ds r := pcon_of_W mixed Try.func37 A37k A37c hl hw
/- estovers/accounts.amounts -/
abbrev A38r1 : List AIns := [⟨(some 2), (.mv (.cst (.bool false))), none⟩]
abbrev A38r2 : List AIns := [⟨(some 5), (.mv (.tmp 0)), none⟩, ⟨(some 6), (.len (.tmp 5)), none⟩, ⟨(some 7), (.mv (.cst (.int .i64 0))), none⟩]
abbrev A38r4 : List AIns := [⟨(some 8), (.bin .lss (.tmp 7) (.tmp 6)), none⟩]
abbrev A38r5 : List AIns := [⟨(some 9), (.iaddr 5 (.tmp 5) (.tmp 7)), none⟩, ⟨(some 10), (.load true 5 (.tmp 9)), none⟩, ⟨(some 4), (.alloc [(.int .i64 0), (.int .i64 0), (.int .i64 0), (.int .i64 0), (.int .i64 0)]), none⟩, ⟨none, (.store 5 (.tmp 4) (.tmp 10)), none⟩]
abbrev A38r6 : List AIns := [⟨(some 11), (.faddr 1 (.tmp 4)), none⟩, ⟨(some 12), (.load false 1 (.tmp 11)), none⟩, ⟨(some 13), (.call (.fnc 48) [(.tmp 12)]), none⟩, ⟨(some 14), (.un .not (.tmp 13)), none⟩, ⟨(some 15), (.mv (.tmp 14)), none⟩, ⟨(some 16), (.faddr 2 (.tmp 4)), (some (15, false))⟩, ⟨(some 17), (.load false 1 (.tmp 16)), (some (15, false))⟩, ⟨(some 18), (.call (.fnc 48) [(.tmp 17)]), (some (15, false))⟩, ⟨(some 19), (.un .not (.tmp 18)), (some (15, false))⟩, ⟨(some 20), (.pick (.tmp 15) (.cst (.bool true)) (.tmp 19)), none⟩, ⟨(some 21), (.mv (.tmp 20)), none⟩, ⟨(some 22), (.faddr 3 (.tmp 4)), (some (21, false))⟩, ⟨(some 23), (.load false 1 (.tmp 22)), (some (21, false))⟩, ⟨(some 24), (.call (.fnc 48) [(.tmp 23)]), (some (21, false))⟩, ⟨(some 25), (.un .not (.tmp 24)), (some (21, false))⟩, ⟨(some 26), (.pick (.tmp 21) (.cst (.bool true)) (.tmp 25)), none⟩, ⟨(some 27), (.mv (.tmp 26)), none⟩, ⟨(some 28), (.faddr 4 (.tmp 4)), (some (27, false))⟩, ⟨(some 29), (.load false 1 (.tmp 28)), (some (27, false))⟩, ⟨(some 30), (.call (.fnc 48) [(.tmp 29)]), (some (27, false))⟩, ⟨(some 31), (.un .not (.tmp 30)), (some (27, false))⟩, ⟨(some 32), (.pick (.tmp 27) (.cst (.bool true)) (.tmp 31)), none⟩]
abbrev A38r7 : List AIns := [⟨(some 2), (.mv (.cst (.bool false))), none⟩]
abbrev A38c8 : ACode := (.seq (.reg A38r5 [0, 4, 5, 6, 7]) (.seq (.reg A38r6 [0, 5, 6, 7, 32]) (.cond (.tmp 32) [] (.seq (.reg A38r7 [2]) .ret) [0, 5, 6, 7] .skip)))
abbrev A38r9 : List AIns := [⟨(some 33), (.bin .add (.tmp 7) (.cst (.int .i64 1))), none⟩, ⟨(some 7), (.mv (.tmp 33)), none⟩]
abbrev A38l3 : ACode := (.seq (.reg A38r4 [0, 5, 6, 7, 8]) (.seq (.cond (.tmp 8) [0, 5, 6, 7] .skip [0] (.exit 0)) (.seq (.block 1 A38c8) (.reg A38r9 [0, 5, 6, 7]))))
abbrev A38r10 : List AIns := [⟨(some 34), (.mv (.tmp 0)), none⟩, ⟨(some 35), (.iaddr 5 (.tmp 34) (.cst (.int .i64 0))), none⟩, ⟨(some 36), (.faddr 2 (.tmp 35)), none⟩, ⟨(some 37), (.load false 1 (.tmp 36)), none⟩, ⟨(some 38), (.bin .eql (.tmp 37) (.cst (.int .i64 0))), none⟩, ⟨(some 39), (.mv (.tmp 38)), none⟩, ⟨(some 40), (.mv (.tmp 0)), (some (39, true))⟩, ⟨(some 41), (.iaddr 5 (.tmp 40) (.cst (.int .i64 0))), (some (39, true))⟩, ⟨(some 42), (.faddr 3 (.tmp 41)), (some (39, true))⟩, ⟨(some 43), (.load false 1 (.tmp 42)), (some (39, true))⟩, ⟨(some 44), (.bin .eql (.tmp 43) (.cst (.int .i64 0))), (some (39, true))⟩, ⟨(some 45), (.pick (.tmp 39) (.tmp 44) (.cst (.bool false))), none⟩, ⟨(some 2), (.mv (.tmp 45)), none⟩]
def A38 : AFun := ⟨46, 1, [(.tmp 2)], (.seq (.reg A38r1 [0]) (.seq (.seq (.reg A38r2 [0, 5, 6, 7]) (.block 0 (.loop A38l3))) (.seq (.reg A38r10 [2]) .ret)))⟩
theorem A38c : compF Try.prog Try.f38 = some A38 := by kernel_rfl
theorem A38k : Callable Try.prog 38 := fun a w => Try.call38 a w
theorem A38p {ds : List D} {r : D} (hl : ds.length ≤ A38.nt) (hw : W Try.prog A38.code (Fin A38.results r) ⟨argEnv 0 ds, fun _ => none⟩) : PCon Try.prog 38 ds r := pcon_of_W mixed Try.func38 A38k A38c hl hw
/- slices.ContainsFunc[[]estovers/api.Account,estovers/api.Account] -/
abbrev A39r1 : List AIns := [⟨(some 4), (.mv (.cst (.bool false))), none⟩]
abbrev A39r2 : List AIns := [⟨(some 5), (.mv (.tmp 0)), none⟩, ⟨(some 6), (.mv (.tmp 1)), none⟩, ⟨(some 7), (.call (.fnc 49) [(.tmp 5), (.tmp 6)]), none⟩, ⟨(some 8), (.bin .geq (.tmp 7) (.cst (.int .i64 0))), none⟩, ⟨(some 4), (.mv (.tmp 8)), none⟩]
def A39 : AFun := ⟨9, 2, [(.tmp 4)], (.seq (.reg A39r1 [0, 1]) (.seq (.reg A39r2 [4]) .ret))⟩
theorem A39c : compF Try.prog Try.f39 = some A39 := by kernel_rfl
theorem A39k : Callable Try.prog 39 := fun a w => Try.call39 a w
theorem A39p {ds : List D} {r : D} (hl : ds.length ≤ A39.nt) (hw : W Try.prog A39.code (Fin A39.results r) ⟨argEnv 0 ds, fun _ => none⟩) : PCon Try.prog 39 ds r := pcon_of_W mixed Try.func39 A39k A39c hl hw
/- estovers/accounts.Check$1 -/
abbrev A40r1 : List AIns := [⟨(some 1), (.box (.tmp 0)), none⟩, ⟨(some 2), (.mv (.cst (.bool false))), none⟩]
abbrev A40r2 : List AIns := [⟨(some 3), (.faddr 1 (.tmp 1)), none⟩, ⟨(some 4), (.load false 1 (.tmp 3)), none⟩, ⟨(some 5), (.faddr 4 (.tmp 1)), none⟩, ⟨(some 6), (.load false 1 (.tmp 5)), none⟩, ⟨(some 7), (.bin .gtr (.tmp 4) (.tmp 6)), none⟩, ⟨(some 2), (.mv (.tmp 7)), none⟩]
def A40 : AFun := ⟨8, 1, [(.tmp 2)], (.seq (.reg A40r1 [1]) (.seq (.reg A40r2 [2]) .ret))⟩
theorem A40c : compF Try.prog Try.f40 = some A40 := by kernel_rfl
theorem A40k : Callable Try.prog 40 := fun a w => Try.call40 a w
theorem A40p {ds : List D} {r : D} (hl : ds.length ≤ A40.nt) (hw : W Try.prog A40.code (Fin A40.results r) ⟨argEnv 0 ds, fun _ => none⟩) : PCon Try.prog 40 ds r := pcon_of_W mixed Try.func40 A40k A40c hl hw
/- slices.Min[[]int,int] -/
abbrev A41r1 : List AIns := [⟨(some 2), (.mv (.cst (.int .i64 0))), none⟩]
abbrev A41r2 : List AIns := [⟨(some 5), (.mv (.tmp 0)), none⟩, ⟨(some 6), (.len (.tmp 5)), none⟩, ⟨(some 7), (.bin .lss (.tmp 6) (.cst (.int .i64 1))), none⟩]
abbrev A41r3 : List AIns := [⟨(some 8), .bad, none⟩, ⟨none, .bad, none⟩]
abbrev A41r4 : List AIns := [⟨(some 9), (.mv (.tmp 0)), none⟩, ⟨(some 10), (.iaddr 1 (.tmp 9) (.cst (.int .i64 0))), none⟩, ⟨(some 11), (.load false 1 (.tmp 10)), none⟩, ⟨(some 3), (.mv (.tmp 11)), none⟩]
abbrev A41r5 : List AIns := [⟨(some 4), (.mv (.cst (.int .i64 1))), none⟩]
abbrev A41r7 : List AIns := [⟨(some 12), (.mv (.tmp 4)), none⟩, ⟨(some 13), (.mv (.tmp 0)), none⟩, ⟨(some 14), (.len (.tmp 13)), none⟩, ⟨(some 15), (.bin .lss (.tmp 12) (.tmp 14)), none⟩]
abbrev A41r8 : List AIns := [⟨(some 18), (.mv (.tmp 3)), none⟩, ⟨(some 19), (.mv (.tmp 0)), none⟩, ⟨(some 20), (.mv (.tmp 4)), none⟩, ⟨(some 21), (.iaddr 1 (.tmp 19) (.tmp 20)), none⟩, ⟨(some 22), (.load false 1 (.tmp 21)), none⟩, ⟨(some 23), (.mima false [(.tmp 18), (.tmp 22)]), none⟩, ⟨(some 3), (.mv (.tmp 23)), none⟩]
abbrev A41r9 : List AIns := [⟨(some 16), (.mv (.tmp 4)), none⟩, ⟨(some 17), (.bin .add (.tmp 16) (.cst (.int .i64 1))), none⟩, ⟨(some 4), (.mv (.tmp 17)), none⟩]
abbrev A41l6 : ACode := (.seq (.seq (.reg A41r7 [0, 3, 4, 15]) (.cond (.tmp 15) [0, 3, 4] .skip [3] (.exit 0))) (.seq (.block 1 (.reg A41r8 [0, 3, 4])) (.reg A41r9 [0, 3, 4])))
abbrev A41r10 : List AIns := [⟨(some 24), (.mv (.tmp 3)), none⟩, ⟨(some 2), (.mv (.tmp 24)), none⟩]
def A41 : AFun := ⟨25, 1, [(.tmp 2)], (.seq (.reg A41r1 [0]) (.seq (.seq (.reg A41r2 [0, 7]) (.cond (.tmp 7) [0] (.reg A41r3 [0]) [0] .skip)) (.seq (.reg A41r4 [0, 3]) (.seq (.seq (.reg A41r5 [0, 3, 4]) (.block 0 (.loop A41l6))) (.seq (.reg A41r10 [2]) .ret)))))⟩
theorem A41c : compF Try.prog Try.f41 = some A41 := by kernel_rfl
theorem A41k : Callable Try.prog 41 := fun a w => Try.call41 a w
theorem A41p {ds : List D} {r : D} (hl : ds.length ≤ A41.nt) (hw : W Try.prog A41.code (Fin A41.results r) ⟨argEnv 0 ds, fun _ => none⟩) : PCon Try.prog 41 ds r := pcon_of_W mixed Try.func41 A41k A41c hl hw
/- estovers/accounts.own -/
abbrev A42r1 : List AIns := [⟨(some 2), (.mv (.cst .nil)), none⟩]
abbrev A42r2 : List AIns := [⟨(some 6), (.mv (.tmp 0)), none⟩, ⟨(some 7), (.len (.tmp 6)), none⟩, ⟨(some 8), (.mkslice 1 8 [(.int .i64 0)] (.tmp 7) (.tmp 7)), none⟩, ⟨(some 3), (.mv (.tmp 8)), none⟩]
abbrev A42r3 : List AIns := [⟨(some 9), (.mv (.tmp 0)), none⟩, ⟨(some 10), (.len (.tmp 9)), none⟩, ⟨(some 11), (.mv (.cst (.int .i64 0))), none⟩]
abbrev A42r5 : List AIns := [⟨(some 12), (.bin .lss (.tmp 11) (.tmp 10)), none⟩]
abbrev A42r6 : List AIns := [⟨(some 13), (.mv (.tmp 11)), none⟩, ⟨(some 14), (.iaddr 5 (.tmp 9) (.tmp 11)), none⟩, ⟨(some 15), (.load true 5 (.tmp 14)), none⟩, ⟨(some 5), (.alloc [(.int .i64 0), (.int .i64 0), (.int .i64 0), (.int .i64 0), (.int .i64 0)]), none⟩, ⟨(some 4), (.mv (.tmp 13)), none⟩, ⟨none, (.store 5 (.tmp 5) (.tmp 15)), none⟩]
abbrev A42d7 : List AIns := [⟨(some 16), (.mv (.tmp 3)), none⟩, ⟨(some 17), (.mv (.tmp 4)), none⟩, ⟨(some 18), (.iaddr 1 (.tmp 16) (.tmp 17)), none⟩, ⟨(some 19), (.load false 1 (.tmp 18)), none⟩, ⟨(some 20), (.faddr 1 (.tmp 5)), none⟩, ⟨(some 21), (.load false 1 (.tmp 20)), none⟩, ⟨(some 22), (.bin .add (.tmp 19) (.tmp 21)), none⟩, ⟨(some 23), (.iaddr 1 (.tmp 16) (.tmp 17)), none⟩, ⟨none, (.store 1 (.tmp 23) (.tmp 22)), none⟩]
abbrev A42d7p : List AIns := [⟨(some 16), (.mv (.tmp 3)), none⟩, ⟨(some 17), (.mv (.tmp 4)), none⟩, ⟨(some 18), (.iaddr 1 (.tmp 16) (.tmp 17)), none⟩, ⟨(some 19), (.load false 1 (.tmp 18)), none⟩, ⟨(some 20), (.faddr 1 (.tmp 5)), none⟩, ⟨(some 21), (.load false 1 (.tmp 20)), none⟩, ⟨(some 22), (.bin .add (.tmp 19) (.tmp 21)), none⟩, ⟨(some 23), (.iaddr 1 (.tmp 16) (.tmp 17)), none⟩]
abbrev A42r8 : List AIns := [⟨(some 24), (.mv (.tmp 4)), none⟩, ⟨(some 25), (.bin .gtr (.tmp 24) (.cst (.int .i64 0))), none⟩]
abbrev A42d9 : List AIns := [⟨(some 26), (.mv (.tmp 3)), none⟩, ⟨(some 27), (.faddr 0 (.tmp 5)), none⟩, ⟨(some 28), (.load false 1 (.tmp 27)), none⟩, ⟨(some 29), (.iaddr 1 (.tmp 26) (.tmp 28)), none⟩, ⟨(some 30), (.load false 1 (.tmp 29)), none⟩, ⟨(some 31), (.faddr 1 (.tmp 5)), none⟩, ⟨(some 32), (.load false 1 (.tmp 31)), none⟩, ⟨(some 33), (.bin .sub (.tmp 30) (.tmp 32)), none⟩, ⟨(some 34), (.iaddr 1 (.tmp 26) (.tmp 28)), none⟩, ⟨none, (.store 1 (.tmp 34) (.tmp 33)), none⟩]
abbrev A42d9p : List AIns := [⟨(some 26), (.mv (.tmp 3)), none⟩, ⟨(some 27), (.faddr 0 (.tmp 5)), none⟩, ⟨(some 28), (.load false 1 (.tmp 27)), none⟩, ⟨(some 29), (.iaddr 1 (.tmp 26) (.tmp 28)), none⟩, ⟨(some 30), (.load false 1 (.tmp 29)), none⟩, ⟨(some 31), (.faddr 1 (.tmp 5)), none⟩, ⟨(some 32), (.load false 1 (.tmp 31)), none⟩, ⟨(some 33), (.bin .sub (.tmp 30) (.tmp 32)), none⟩, ⟨(some 34), (.iaddr 1 (.tmp 26) (.tmp 28)), none⟩]
abbrev A42c10 : ACode := (.dreg A42d9 [[], [], [1], [0, 1, 2], [0, 1, 2, 3], [], [5], [0, 1, 2, 3, 4, 5, 6], [0, 1, 2, 3, 4, 5, 6, 7], [0, 1, 2, 3, 4, 5, 6, 7, 8]] [3, 9, 10, 11])
abbrev A42c11 : ACode := (.seq (.reg A42r6 [3, 4, 5, 9, 10, 11]) (.seq (.dreg A42d7 [[], [], [0, 1], [0, 1, 2], [], [4], [0, 1, 2, 3, 4, 5], [0, 1, 2, 3, 4, 5, 6], [0, 1, 2, 3, 4, 5, 6, 7]] [3, 4, 5, 9, 10, 11]) (.seq (.reg A42r8 [3, 5, 9, 10, 11, 25]) (.cond (.tmp 25) [3, 5, 9, 10, 11] A42c10 [3, 9, 10, 11] .skip))))
abbrev A42r12 : List AIns := [⟨(some 35), (.bin .add (.tmp 11) (.cst (.int .i64 1))), none⟩, ⟨(some 11), (.mv (.tmp 35)), none⟩]
abbrev A42l4 : ACode := (.seq (.reg A42r5 [3, 9, 10, 11, 12]) (.seq (.cond (.tmp 12) [3, 9, 10, 11] .skip [3] (.exit 0)) (.seq (.block 1 A42c11) (.reg A42r12 [3, 9, 10, 11]))))
abbrev A42r13 : List AIns := [⟨(some 36), (.mv (.tmp 3)), none⟩, ⟨(some 2), (.mv (.tmp 36)), none⟩]
def A42 : AFun := ⟨37, 1, [(.tmp 2)], (.seq (.reg A42r1 [0]) (.seq (.reg A42r2 [0, 3]) (.seq (.seq (.reg A42r3 [3, 9, 10, 11]) (.block 0 (.loop A42l4))) (.seq (.reg A42r13 [2]) .ret))))⟩
theorem A42c : compF Try.prog Try.f42 = some A42 := by kernel_rfl
theorem A42k : Callable Try.prog 42 := fun a w => Try.call42 a w
theorem A42p {ds : List D} {r : D} (hl : ds.length ≤ A42.nt) (hw : W Try.prog A42.code (Fin A42.results r) ⟨argEnv 0 ds, fun _ => none⟩) : PCon Try.prog 42 ds r := pcon_of_W mixed Try.func42 A42k A42c hl hw
/- estovers/accounts.is -/
abbrev A43r1 : List AIns := [⟨(some 4), (.mv (.cst (.bool false))), none⟩]
abbrev A43r2 : List AIns := [⟨(some 5), (.mv (.tmp 0)), none⟩, ⟨(some 6), (.call (.fnc 23) [(.tmp 5)]), none⟩, ⟨(some 7), (.bin .eql (.tmp 6) (.cst (.int .i64 0))), none⟩, ⟨(some 8), (.mv (.tmp 7)), none⟩, ⟨(some 9), (.mv (.tmp 1)), (some (8, true))⟩, ⟨(some 10), (.bin .geq (.tmp 9) (.cst (.int .i64 0))), (some (8, true))⟩, ⟨(some 11), (.pick (.tmp 8) (.tmp 10) (.cst (.bool false))), none⟩, ⟨(some 12), (.mv (.tmp 11)), none⟩, ⟨(some 13), (.mv (.tmp 1)), (some (12, true))⟩, ⟨(some 14), (.mv (.tmp 0)), (some (12, true))⟩, ⟨(some 15), (.len (.tmp 14)), (some (12, true))⟩, ⟨(some 16), (.bin .lss (.tmp 13) (.tmp 15)), (some (12, true))⟩, ⟨(some 17), (.pick (.tmp 12) (.tmp 16) (.cst (.bool false))), none⟩, ⟨(some 4), (.mv (.tmp 17)), none⟩]
def A43 : AFun := ⟨18, 2, [(.tmp 4)], (.seq (.reg A43r1 [0, 1]) (.seq (.reg A43r2 [4]) .ret))⟩
theorem A43c : compF Try.prog Try.f43 = some A43 := by kernel_rfl
theorem A43k : Callable Try.prog 43 := fun a w => Try.call43 a w
theorem A43p {ds : List D} {r : D} (hl : ds.length ≤ A43.nt) (hw : W Try.prog A43.code (Fin A43.results r) ⟨argEnv 0 ds, fun _ => none⟩) : PCon Try.prog 43 ds r := pcon_of_W mixed Try.func43 A43k A43c hl hw
/- estovers/protection.inside -/
abbrev A44r1 : List AIns := [⟨(some 4), (.mv (.cst .nil)), none⟩]
abbrev A44r2 : List AIns := [⟨(some 7), (.mv (.tmp 0)), none⟩, ⟨(some 8), (.len (.tmp 7)), none⟩, ⟨(some 9), (.mkslice 1 8 [(.int .i64 0)] (.tmp 8) (.tmp 8)), none⟩, ⟨(some 5), (.mv (.tmp 9)), none⟩]
abbrev A44r3 : List AIns := [⟨(some 10), (.mv (.tmp 0)), none⟩, ⟨(some 11), (.len (.tmp 10)), none⟩, ⟨(some 12), (.bin .sub (.tmp 11) (.cst (.int .i64 1))), none⟩, ⟨(some 6), (.mv (.tmp 12)), none⟩]
abbrev A44r5 : List AIns := [⟨(some 13), (.mv (.tmp 6)), none⟩, ⟨(some 14), (.bin .geq (.tmp 13) (.cst (.int .i64 0))), none⟩]
abbrev A44d6 : List AIns := [⟨(some 17), (.mv (.tmp 5)), none⟩, ⟨(some 18), (.mv (.tmp 6)), none⟩, ⟨(some 19), (.iaddr 1 (.tmp 17) (.tmp 18)), none⟩, ⟨(some 20), (.load false 1 (.tmp 19)), none⟩, ⟨(some 21), (.mv (.tmp 1)), none⟩, ⟨(some 22), (.mv (.tmp 6)), none⟩, ⟨(some 23), (.iaddr 1 (.tmp 21) (.tmp 22)), none⟩, ⟨(some 24), (.load false 1 (.tmp 23)), none⟩, ⟨(some 25), (.bin .add (.tmp 20) (.tmp 24)), none⟩, ⟨(some 26), (.iaddr 1 (.tmp 17) (.tmp 18)), none⟩, ⟨none, (.store 1 (.tmp 26) (.tmp 25)), none⟩]
abbrev A44d6p : List AIns := [⟨(some 17), (.mv (.tmp 5)), none⟩, ⟨(some 18), (.mv (.tmp 6)), none⟩, ⟨(some 19), (.iaddr 1 (.tmp 17) (.tmp 18)), none⟩, ⟨(some 20), (.load false 1 (.tmp 19)), none⟩, ⟨(some 21), (.mv (.tmp 1)), none⟩, ⟨(some 22), (.mv (.tmp 6)), none⟩, ⟨(some 23), (.iaddr 1 (.tmp 21) (.tmp 22)), none⟩, ⟨(some 24), (.load false 1 (.tmp 23)), none⟩, ⟨(some 25), (.bin .add (.tmp 20) (.tmp 24)), none⟩, ⟨(some 26), (.iaddr 1 (.tmp 17) (.tmp 18)), none⟩]
abbrev A44r7 : List AIns := [⟨(some 27), (.mv (.tmp 6)), none⟩, ⟨(some 28), (.bin .gtr (.tmp 27) (.cst (.int .i64 0))), none⟩]
abbrev A44d8 : List AIns := [⟨(some 29), (.mv (.tmp 5)), none⟩, ⟨(some 30), (.mv (.tmp 0)), none⟩, ⟨(some 31), (.mv (.tmp 6)), none⟩, ⟨(some 32), (.iaddr 5 (.tmp 30) (.tmp 31)), none⟩, ⟨(some 33), (.faddr 0 (.tmp 32)), none⟩, ⟨(some 34), (.load false 1 (.tmp 33)), none⟩, ⟨(some 35), (.iaddr 1 (.tmp 29) (.tmp 34)), none⟩, ⟨(some 36), (.load false 1 (.tmp 35)), none⟩, ⟨(some 37), (.mv (.tmp 5)), none⟩, ⟨(some 38), (.mv (.tmp 6)), none⟩, ⟨(some 39), (.iaddr 1 (.tmp 37) (.tmp 38)), none⟩, ⟨(some 40), (.load false 1 (.tmp 39)), none⟩, ⟨(some 41), (.bin .add (.tmp 36) (.tmp 40)), none⟩, ⟨(some 42), (.iaddr 1 (.tmp 29) (.tmp 34)), none⟩, ⟨none, (.store 1 (.tmp 42) (.tmp 41)), none⟩]
abbrev A44d8p : List AIns := [⟨(some 29), (.mv (.tmp 5)), none⟩, ⟨(some 30), (.mv (.tmp 0)), none⟩, ⟨(some 31), (.mv (.tmp 6)), none⟩, ⟨(some 32), (.iaddr 5 (.tmp 30) (.tmp 31)), none⟩, ⟨(some 33), (.faddr 0 (.tmp 32)), none⟩, ⟨(some 34), (.load false 1 (.tmp 33)), none⟩, ⟨(some 35), (.iaddr 1 (.tmp 29) (.tmp 34)), none⟩, ⟨(some 36), (.load false 1 (.tmp 35)), none⟩, ⟨(some 37), (.mv (.tmp 5)), none⟩, ⟨(some 38), (.mv (.tmp 6)), none⟩, ⟨(some 39), (.iaddr 1 (.tmp 37) (.tmp 38)), none⟩, ⟨(some 40), (.load false 1 (.tmp 39)), none⟩, ⟨(some 41), (.bin .add (.tmp 36) (.tmp 40)), none⟩, ⟨(some 42), (.iaddr 1 (.tmp 29) (.tmp 34)), none⟩]
abbrev A44c9 : ACode := (.dreg A44d8 [[], [], [], [1, 2], [1, 2, 3], [1, 2, 3, 4], [0, 1, 2, 3, 4, 5], [0, 1, 2, 3, 4, 5, 6], [], [], [8, 9], [8, 9, 10], [0, 1, 2, 3, 4, 5, 6, 7, 8, 9, 10, 11], [0, 1, 2, 3, 4, 5, 6, 7, 8, 9, 10, 11, 12], [0, 1, 2, 3, 4, 5, 6, 7, 8, 9, 10, 11, 12, 13]] [0, 1, 5, 6])
abbrev A44c10 : ACode := (.seq (.dreg A44d6 [[], [], [0, 1], [0, 1, 2], [], [], [4, 5], [4, 5, 6], [0, 1, 2, 3, 4, 5, 6, 7], [0, 1, 2, 3, 4, 5, 6, 7, 8], [0, 1, 2, 3, 4, 5, 6, 7, 8, 9]] [0, 1, 5, 6]) (.seq (.reg A44r7 [0, 1, 5, 6, 28]) (.cond (.tmp 28) [0, 1, 5, 6] A44c9 [0, 1, 5, 6] .skip)))
abbrev A44r11 : List AIns := [⟨(some 15), (.mv (.tmp 6)), none⟩, ⟨(some 16), (.bin .sub (.tmp 15) (.cst (.int .i64 1))), none⟩, ⟨(some 6), (.mv (.tmp 16)), none⟩]
abbrev A44l4 : ACode := (.seq (.seq (.reg A44r5 [0, 1, 5, 6, 14]) (.cond (.tmp 14) [0, 1, 5, 6] .skip [5] (.exit 0))) (.seq (.block 1 A44c10) (.reg A44r11 [0, 1, 5, 6])))
abbrev A44r12 : List AIns := [⟨(some 43), (.mv (.tmp 5)), none⟩, ⟨(some 4), (.mv (.tmp 43)), none⟩]
def A44 : AFun := ⟨44, 2, [(.tmp 4)], (.seq (.reg A44r1 [0, 1]) (.seq (.reg A44r2 [0, 1, 5]) (.seq (.seq (.reg A44r3 [0, 1, 5, 6]) (.block 0 (.loop A44l4))) (.seq (.reg A44r12 [4]) .ret))))⟩
theorem A44c : compF Try.prog Try.f44 = some A44 := by kernel_rfl
theorem A44k : Callable Try.prog 44 := fun a w => Try.call44 a w
theorem A44p {ds : List D} {r : D} (hl : ds.length ≤ A44.nt) (hw : W Try.prog A44.code (Fin A44.results r) ⟨argEnv 0 ds, fun _ => none⟩) : PCon Try.prog 44 ds r := pcon_of_W mixed Try.func44 A44k A44c hl hw
/- slices.Contains[[]int,int] -/
abbrev A45r1 : List AIns := [⟨(some 4), (.mv (.cst (.bool false))), none⟩]
abbrev A45r2 : List AIns := [⟨(some 5), (.mv (.tmp 0)), none⟩, ⟨(some 6), (.mv (.tmp 1)), none⟩, ⟨(some 7), (.call (.fnc 50) [(.tmp 5), (.tmp 6)]), none⟩, ⟨(some 8), (.bin .geq (.tmp 7) (.cst (.int .i64 0))), none⟩, ⟨(some 4), (.mv (.tmp 8)), none⟩]
def A45 : AFun := ⟨9, 2, [(.tmp 4)], (.seq (.reg A45r1 [0, 1]) (.seq (.reg A45r2 [4]) .ret))⟩
theorem A45c : compF Try.prog Try.f45 = some A45 := by kernel_rfl
theorem A45k : Callable Try.prog 45 := fun a w => Try.call45 a w
theorem A45p {ds : List D} {r : D} (hl : ds.length ≤ A45.nt) (hw : W Try.prog A45.code (Fin A45.results r) ⟨argEnv 0 ds, fun _ => none⟩) : PCon Try.prog 45 ds r := pcon_of_W mixed Try.func45 A45k A45c hl hw
/- estovers/accounts.Path -/
abbrev A46r1 : List AIns := [⟨(some 4), (.mv (.cst .nil)), none⟩]
abbrev A46r2 : List AIns := [⟨(some 7), (.mv (.tmp 0)), none⟩, ⟨(some 8), (.mv (.tmp 1)), none⟩, ⟨(some 9), (.call (.fnc 43) [(.tmp 7), (.tmp 8)]), none⟩, ⟨(some 10), (.un .not (.tmp 9)), none⟩]
abbrev A46r3 : List AIns := [⟨(some 4), (.mv (.cst .nil)), none⟩]
abbrev A46r4 : List AIns := [⟨(some 5), (.mv (.cst .nil)), none⟩]
abbrev A46r5 : List AIns := [⟨(some 11), (.mv (.tmp 1)), none⟩, ⟨(some 6), (.mv (.tmp 11)), none⟩]
abbrev A46r7 : List AIns := [⟨(some 12), (.mv (.tmp 6)), none⟩, ⟨(some 13), (.bin .geq (.tmp 12) (.cst (.int .i64 0))), none⟩]
abbrev A46r8 : List AIns := [⟨(some 19), (.mv (.tmp 5)), none⟩, ⟨(some 20), (.mv (.tmp 6)), none⟩, ⟨(some 21), (.buildS 1 [(.int .i64 0)] 1 [(0, (1, (.tmp 20)))]), none⟩, ⟨(some 22), (.append 1 8 (.tmp 19) (.tmp 21)), none⟩, ⟨(some 5), (.mv (.tmp 22)), none⟩]
abbrev A46r9 : List AIns := [⟨(some 14), (.mv (.tmp 0)), none⟩, ⟨(some 15), (.mv (.tmp 6)), none⟩, ⟨(some 16), (.iaddr 5 (.tmp 14) (.tmp 15)), none⟩, ⟨(some 17), (.faddr 0 (.tmp 16)), none⟩, ⟨(some 18), (.load false 1 (.tmp 17)), none⟩, ⟨(some 6), (.mv (.tmp 18)), none⟩]
abbrev A46l6 : ACode := (.seq (.seq (.reg A46r7 [0, 5, 6, 13]) (.cond (.tmp 13) [0, 5, 6] .skip [5] (.exit 0))) (.seq (.block 1 (.reg A46r8 [0, 5, 6])) (.reg A46r9 [0, 5, 6])))
abbrev A46r10 : List AIns := [⟨(some 23), (.mv (.tmp 5)), none⟩, ⟨(some 4), (.mv (.tmp 23)), none⟩]
def A46 : AFun := ⟨24, 2, [(.tmp 4)], (.seq (.reg A46r1 [0, 1]) (.seq (.seq (.reg A46r2 [0, 1, 10]) (.cond (.tmp 10) [] (.seq (.reg A46r3 [4]) .ret) [0, 1] .skip)) (.seq (.reg A46r4 [0, 1, 5]) (.seq (.seq (.reg A46r5 [0, 5, 6]) (.block 0 (.loop A46l6))) (.seq (.reg A46r10 [4]) .ret)))))⟩
theorem A46c : compF Try.prog Try.f46 = some A46 := by kernel_rfl
theorem A46k : Callable Try.prog 46 := fun a w => Try.call46 a w
theorem A46p {ds : List D} {r : D} (hl : ds.length ≤ A46.nt) (hw : W Try.prog A46.code (Fin A46.results r) ⟨argEnv 0 ds, fun _ => none⟩) : PCon Try.prog 46 ds r := pcon_of_W mixed Try.func46 A46k A46c hl hw
/- estovers/estoversref19.Check -/
abbrev A47r1 : List AIns := [⟨(some 2), (.mv (.cst (.int .i64 0))), none⟩]
abbrev A47r2 : List AIns := [⟨(some 7), (.mv (.tmp 0)), none⟩, ⟨(some 8), (.len (.tmp 7)), none⟩, ⟨(some 9), (.bin .lss (.tmp 8) (.cst (.int .i64 1))), none⟩, ⟨(some 10), (.mv (.tmp 9)), none⟩, ⟨(some 11), (.mv (.tmp 0)), (some (10, false))⟩, ⟨(some 12), (.len (.tmp 11)), (some (10, false))⟩, ⟨(some 13), (.bin .gtr (.tmp 12) (.cst (.int .i64 8))), (some (10, false))⟩, ⟨(some 14), (.pick (.tmp 10) (.cst (.bool true)) (.tmp 13)), none⟩]
abbrev A47r3 : List AIns := [⟨(some 2), (.mv (.cst (.int .i64 9))), none⟩]
abbrev A47r4 : List AIns := [⟨(some 3), (.mv (.cst (.int .i64 0))), none⟩]
abbrev A47r6 : List AIns := [⟨(some 15), (.mv (.tmp 3)), none⟩, ⟨(some 16), (.mv (.tmp 0)), none⟩, ⟨(some 17), (.len (.tmp 16)), none⟩, ⟨(some 18), (.bin .lss (.tmp 15) (.tmp 17)), none⟩]
abbrev A47r7 : List AIns := [⟨(some 21), (.mv (.tmp 3)), none⟩, ⟨(some 22), (.bin .eql (.tmp 21) (.cst (.int .i64 0))), none⟩, ⟨(some 23), (.mv (.tmp 22)), none⟩, ⟨(some 24), (.mv (.tmp 0)), (some (23, true))⟩, ⟨(some 25), (.mv (.tmp 3)), (some (23, true))⟩, ⟨(some 26), (.iaddr 5 (.tmp 24) (.tmp 25)), (some (23, true))⟩, ⟨(some 27), (.faddr 0 (.tmp 26)), (some (23, true))⟩, ⟨(some 28), (.load false 1 (.tmp 27)), (some (23, true))⟩, ⟨(some 29), (.bin .neq (.tmp 28) (.cst (.int .i64 (-1)))), (some (23, true))⟩, ⟨(some 30), (.pick (.tmp 23) (.tmp 29) (.cst (.bool false))), none⟩, ⟨(some 31), (.mv (.tmp 30)), none⟩, ⟨(some 32), (.mv (.tmp 3)), (some (31, false))⟩, ⟨(some 33), (.bin .gtr (.tmp 32) (.cst (.int .i64 0))), (some (31, false))⟩, ⟨(some 34), (.mv (.tmp 33)), (some (31, false))⟩, ⟨(some 35), (.mv (.tmp 0)), (some (34, true))⟩, ⟨(some 36), (.mv (.tmp 3)), (some (34, true))⟩, ⟨(some 37), (.iaddr 5 (.tmp 35) (.tmp 36)), (some (34, true))⟩, ⟨(some 38), (.faddr 0 (.tmp 37)), (some (34, true))⟩, ⟨(some 39), (.load false 1 (.tmp 38)), (some (34, true))⟩, ⟨(some 40), (.bin .lss (.tmp 39) (.cst (.int .i64 0))), (some (34, true))⟩, ⟨(some 41), (.mv (.tmp 40)), (some (34, true))⟩, ⟨(some 42), (.mv (.tmp 0)), (some (41, false))⟩, ⟨(some 43), (.mv (.tmp 3)), (some (41, false))⟩, ⟨(some 44), (.iaddr 5 (.tmp 42) (.tmp 43)), (some (41, false))⟩, ⟨(some 45), (.faddr 0 (.tmp 44)), (some (41, false))⟩, ⟨(some 46), (.load false 1 (.tmp 45)), (some (41, false))⟩, ⟨(some 47), (.mv (.tmp 3)), (some (41, false))⟩, ⟨(some 48), (.bin .geq (.tmp 46) (.tmp 47)), (some (41, false))⟩, ⟨(some 49), (.pick (.tmp 41) (.cst (.bool true)) (.tmp 48)), (some (34, true))⟩, ⟨(some 50), (.pick (.tmp 34) (.tmp 49) (.cst (.bool false))), (some (31, false))⟩, ⟨(some 51), (.pick (.tmp 31) (.cst (.bool true)) (.tmp 50)), none⟩]
abbrev A47r8 : List AIns := [⟨(some 2), (.mv (.cst (.int .i64 1))), none⟩]
abbrev A47c9 : ACode := (.seq (.reg A47r7 [0, 3, 51]) (.cond (.tmp 51) [] (.seq (.reg A47r8 [2]) .ret) [0, 3] .skip))
abbrev A47r10 : List AIns := [⟨(some 19), (.mv (.tmp 3)), none⟩, ⟨(some 20), (.bin .add (.tmp 19) (.cst (.int .i64 1))), none⟩, ⟨(some 3), (.mv (.tmp 20)), none⟩]
abbrev A47l5 : ACode := (.seq (.seq (.reg A47r6 [0, 3, 18]) (.cond (.tmp 18) [0, 3] .skip [0] (.exit 0))) (.seq (.block 1 A47c9) (.reg A47r10 [0, 3])))
abbrev A47r11 : List AIns := [⟨(some 4), (.mv (.cst (.int .i64 0))), none⟩]
abbrev A47r13 : List AIns := [⟨(some 52), (.mv (.tmp 4)), none⟩, ⟨(some 53), (.mv (.tmp 0)), none⟩, ⟨(some 54), (.len (.tmp 53)), none⟩, ⟨(some 55), (.bin .lss (.tmp 52) (.tmp 54)), none⟩]
abbrev A47r14 : List AIns := [⟨(some 58), (.mv (.tmp 0)), none⟩, ⟨(some 59), (.mv (.tmp 4)), none⟩, ⟨(some 60), (.iaddr 5 (.tmp 58) (.tmp 59)), none⟩, ⟨(some 61), (.faddr 1 (.tmp 60)), none⟩, ⟨(some 62), (.load false 1 (.tmp 61)), none⟩, ⟨(some 63), (.call (.fnc 51) [(.tmp 62)]), none⟩, ⟨(some 64), (.un .not (.tmp 63)), none⟩, ⟨(some 65), (.mv (.tmp 64)), none⟩, ⟨(some 66), (.mv (.tmp 0)), (some (65, false))⟩, ⟨(some 67), (.mv (.tmp 4)), (some (65, false))⟩, ⟨(some 68), (.iaddr 5 (.tmp 66) (.tmp 67)), (some (65, false))⟩, ⟨(some 69), (.faddr 2 (.tmp 68)), (some (65, false))⟩, ⟨(some 70), (.load false 1 (.tmp 69)), (some (65, false))⟩, ⟨(some 71), (.call (.fnc 51) [(.tmp 70)]), (some (65, false))⟩, ⟨(some 72), (.un .not (.tmp 71)), (some (65, false))⟩, ⟨(some 73), (.pick (.tmp 65) (.cst (.bool true)) (.tmp 72)), none⟩, ⟨(some 74), (.mv (.tmp 73)), none⟩, ⟨(some 75), (.mv (.tmp 0)), (some (74, false))⟩, ⟨(some 76), (.mv (.tmp 4)), (some (74, false))⟩, ⟨(some 77), (.iaddr 5 (.tmp 75) (.tmp 76)), (some (74, false))⟩, ⟨(some 78), (.faddr 3 (.tmp 77)), (some (74, false))⟩, ⟨(some 79), (.load false 1 (.tmp 78)), (some (74, false))⟩, ⟨(some 80), (.call (.fnc 51) [(.tmp 79)]), (some (74, false))⟩, ⟨(some 81), (.un .not (.tmp 80)), (some (74, false))⟩, ⟨(some 82), (.pick (.tmp 74) (.cst (.bool true)) (.tmp 81)), none⟩, ⟨(some 83), (.mv (.tmp 82)), none⟩, ⟨(some 84), (.mv (.tmp 0)), (some (83, false))⟩, ⟨(some 85), (.mv (.tmp 4)), (some (83, false))⟩, ⟨(some 86), (.iaddr 5 (.tmp 84) (.tmp 85)), (some (83, false))⟩, ⟨(some 87), (.faddr 4 (.tmp 86)), (some (83, false))⟩, ⟨(some 88), (.load false 1 (.tmp 87)), (some (83, false))⟩, ⟨(some 89), (.call (.fnc 51) [(.tmp 88)]), (some (83, false))⟩, ⟨(some 90), (.un .not (.tmp 89)), (some (83, false))⟩, ⟨(some 91), (.pick (.tmp 83) (.cst (.bool true)) (.tmp 90)), none⟩]
abbrev A47r15 : List AIns := [⟨(some 2), (.mv (.cst (.int .i64 2))), none⟩]
abbrev A47c16 : ACode := (.seq (.reg A47r14 [0, 4, 91]) (.cond (.tmp 91) [] (.seq (.reg A47r15 [2]) .ret) [0, 4] .skip))
abbrev A47r17 : List AIns := [⟨(some 56), (.mv (.tmp 4)), none⟩, ⟨(some 57), (.bin .add (.tmp 56) (.cst (.int .i64 1))), none⟩, ⟨(some 4), (.mv (.tmp 57)), none⟩]
abbrev A47l12 : ACode := (.seq (.seq (.reg A47r13 [0, 4, 55]) (.cond (.tmp 55) [0, 4] .skip [0] (.exit 2))) (.seq (.block 3 A47c16) (.reg A47r17 [0, 4])))
abbrev A47r18 : List AIns := [⟨(some 92), (.mv (.tmp 0)), none⟩, ⟨(some 93), (.iaddr 5 (.tmp 92) (.cst (.int .i64 0))), none⟩, ⟨(some 94), (.faddr 2 (.tmp 93)), none⟩, ⟨(some 95), (.load false 1 (.tmp 94)), none⟩, ⟨(some 96), (.bin .neq (.tmp 95) (.cst (.int .i64 0))), none⟩, ⟨(some 97), (.mv (.tmp 96)), none⟩, ⟨(some 98), (.mv (.tmp 0)), (some (97, false))⟩, ⟨(some 99), (.iaddr 5 (.tmp 98) (.cst (.int .i64 0))), (some (97, false))⟩, ⟨(some 100), (.faddr 3 (.tmp 99)), (some (97, false))⟩, ⟨(some 101), (.load false 1 (.tmp 100)), (some (97, false))⟩, ⟨(some 102), (.bin .neq (.tmp 101) (.cst (.int .i64 0))), (some (97, false))⟩, ⟨(some 103), (.pick (.tmp 97) (.cst (.bool true)) (.tmp 102)), none⟩]
abbrev A47r19 : List AIns := [⟨(some 2), (.mv (.cst (.int .i64 2))), none⟩]
abbrev A47r20 : List AIns := [⟨(some 5), (.mv (.cst (.int .i64 0))), none⟩]
abbrev A47r22 : List AIns := [⟨(some 104), (.mv (.tmp 5)), none⟩, ⟨(some 105), (.mv (.tmp 0)), none⟩, ⟨(some 106), (.len (.tmp 105)), none⟩, ⟨(some 107), (.bin .lss (.tmp 104) (.tmp 106)), none⟩]
abbrev A47d23 : List AIns := [⟨(some 110), (.mv (.tmp 0)), none⟩, ⟨(some 111), (.mv (.tmp 5)), none⟩, ⟨(some 112), (.iaddr 5 (.tmp 110) (.tmp 111)), none⟩, ⟨(some 113), (.faddr 1 (.tmp 112)), none⟩, ⟨(some 114), (.load false 1 (.tmp 113)), none⟩, ⟨(some 115), (.mv (.tmp 0)), none⟩, ⟨(some 116), (.mv (.tmp 5)), none⟩, ⟨(some 117), (.iaddr 5 (.tmp 115) (.tmp 116)), none⟩, ⟨(some 118), (.faddr 4 (.tmp 117)), none⟩, ⟨(some 119), (.load false 1 (.tmp 118)), none⟩, ⟨(some 120), (.bin .gtr (.tmp 114) (.tmp 119)), none⟩]
abbrev A47r24 : List AIns := [⟨(some 2), (.mv (.cst (.int .i64 17))), none⟩]
abbrev A47c25 : ACode := (.seq (.dreg A47d23 [[], [], [0, 1], [0, 1, 2], [0, 1, 2, 3], [], [], [5, 6], [5, 6, 7], [5, 6, 7, 8], [0, 1, 2, 3, 4, 5, 6, 7, 8, 9]] [0, 5, 120]) (.cond (.tmp 120) [] (.seq (.reg A47r24 [2]) .ret) [0, 5] .skip))
abbrev A47r26 : List AIns := [⟨(some 108), (.mv (.tmp 5)), none⟩, ⟨(some 109), (.bin .add (.tmp 108) (.cst (.int .i64 1))), none⟩, ⟨(some 5), (.mv (.tmp 109)), none⟩]
abbrev A47l21 : ACode := (.seq (.seq (.reg A47r22 [0, 5, 107]) (.cond (.tmp 107) [0, 5] .skip [0] (.exit 4))) (.seq (.block 5 A47c25) (.reg A47r26 [0, 5])))
abbrev A47r27 : List AIns := [⟨(some 6), (.mv (.cst (.int .i64 0))), none⟩]
abbrev A47r29 : List AIns := [⟨(some 121), (.mv (.tmp 6)), none⟩, ⟨(some 122), (.mv (.tmp 0)), none⟩, ⟨(some 123), (.len (.tmp 122)), none⟩, ⟨(some 124), (.bin .lss (.tmp 121) (.tmp 123)), none⟩]
abbrev A47d30 : List AIns := [⟨(some 127), (.mv (.tmp 0)), none⟩, ⟨(some 128), (.mv (.tmp 6)), none⟩, ⟨(some 129), (.iaddr 5 (.tmp 127) (.tmp 128)), none⟩, ⟨(some 130), (.faddr 1 (.tmp 129)), none⟩, ⟨(some 131), (.load false 1 (.tmp 130)), none⟩, ⟨(some 132), (.mv (.tmp 0)), none⟩, ⟨(some 133), (.mv (.tmp 6)), none⟩, ⟨(some 134), (.call (.fnc 36) [(.tmp 132), (.tmp 133)]), none⟩, ⟨(some 135), (.bin .lss (.tmp 131) (.tmp 134)), none⟩]
abbrev A47r31 : List AIns := [⟨(some 2), (.mv (.cst (.int .i64 11))), none⟩]
abbrev A47c32 : ACode := (.seq (.dreg A47d30 [[], [], [0, 1], [0, 1, 2], [0, 1, 2, 3], [], [], [5, 6], [0, 1, 2, 3, 4, 5, 6, 7]] [0, 6, 135]) (.cond (.tmp 135) [] (.seq (.reg A47r31 [2]) .ret) [0, 6] .skip))
abbrev A47r33 : List AIns := [⟨(some 125), (.mv (.tmp 6)), none⟩, ⟨(some 126), (.bin .add (.tmp 125) (.cst (.int .i64 1))), none⟩, ⟨(some 6), (.mv (.tmp 126)), none⟩]
abbrev A47l28 : ACode := (.seq (.seq (.reg A47r29 [0, 6, 124]) (.cond (.tmp 124) [0, 6] .skip [] (.exit 6))) (.seq (.block 7 A47c32) (.reg A47r33 [0, 6])))
abbrev A47r34 : List AIns := [⟨(some 2), (.mv (.cst (.int .i64 0))), none⟩]
def A47 : AFun := ⟨136, 1, [(.tmp 2)], (.seq (.reg A47r1 [0]) (.seq (.seq (.reg A47r2 [0, 14]) (.cond (.tmp 14) [] (.seq (.reg A47r3 [2]) .ret) [0] .skip)) (.seq (.seq (.reg A47r4 [0, 3]) (.block 0 (.loop A47l5))) (.seq (.seq (.reg A47r11 [0, 4]) (.block 2 (.loop A47l12))) (.seq (.seq (.reg A47r18 [0, 103]) (.cond (.tmp 103) [] (.seq (.reg A47r19 [2]) .ret) [0] .skip)) (.seq (.seq (.reg A47r20 [0, 5]) (.block 4 (.loop A47l21))) (.seq (.seq (.reg A47r27 [0, 6]) (.block 6 (.loop A47l28))) (.seq (.reg A47r34 [2]) .ret))))))))⟩
theorem A47c : compF Try.prog Try.f47 = some A47 := by kernel_rfl
theorem A47k : Callable Try.prog 47 := fun a w => Try.call47 a w
theorem A47p {ds : List D} {r : D} (hl : ds.length ≤ A47.nt) (hw : W Try.prog A47.code (Fin A47.results r) ⟨argEnv 0 ds, fun _ => none⟩) : PCon Try.prog 47 ds r := pcon_of_W mixed Try.func47 A47k A47c hl hw
/- estovers/accounts.in -/
abbrev A48r1 : List AIns := [⟨(some 2), (.mv (.cst (.bool false))), none⟩]
abbrev A48r2 : List AIns := [⟨(some 3), (.mv (.tmp 0)), none⟩, ⟨(some 4), (.bin .geq (.tmp 3) (.cst (.int .i64 0))), none⟩, ⟨(some 5), (.mv (.tmp 4)), none⟩, ⟨(some 6), (.mv (.tmp 0)), (some (5, true))⟩, ⟨(some 7), (.bin .leq (.tmp 6) (.cst (.int .i64 1048576))), (some (5, true))⟩, ⟨(some 8), (.pick (.tmp 5) (.tmp 7) (.cst (.bool false))), none⟩, ⟨(some 2), (.mv (.tmp 8)), none⟩]
def A48 : AFun := ⟨9, 1, [(.tmp 2)], (.seq (.reg A48r1 [0]) (.seq (.reg A48r2 [2]) .ret))⟩
theorem A48c : compF Try.prog Try.f48 = some A48 := by kernel_rfl
theorem A48k : Callable Try.prog 48 := fun a w => Try.call48 a w
theorem A48p {ds : List D} {r : D} (hl : ds.length ≤ A48.nt) (hw : W Try.prog A48.code (Fin A48.results r) ⟨argEnv 0 ds, fun _ => none⟩) : PCon Try.prog 48 ds r := pcon_of_W mixed Try.func48 A48k A48c hl hw
/- slices.IndexFunc[[]estovers/api.Account,estovers/api.Account] -/
abbrev A49r1 : List AIns := [⟨(some 4), (.mv (.cst (.int .i64 0))), none⟩]
abbrev A49r2 : List AIns := [⟨(some 6), (.mv (.tmp 0)), none⟩, ⟨(some 7), (.len (.tmp 6)), none⟩, ⟨(some 8), (.mv (.cst (.int .i64 0))), none⟩]
abbrev A49r4 : List AIns := [⟨(some 9), (.bin .lss (.tmp 8) (.tmp 7)), none⟩]
abbrev A49r5 : List AIns := [⟨(some 10), (.mv (.tmp 8)), none⟩, ⟨(some 5), (.mv (.tmp 10)), none⟩]
abbrev A49r6 : List AIns := [⟨(some 11), (.mv (.tmp 1)), none⟩, ⟨(some 12), (.mv (.tmp 0)), none⟩, ⟨(some 13), (.mv (.tmp 5)), none⟩, ⟨(some 14), (.iaddr 5 (.tmp 12) (.tmp 13)), none⟩, ⟨(some 15), (.load true 5 (.tmp 14)), none⟩, ⟨(some 16), (.call (.tmp 11) [(.tmp 15)]), none⟩]
abbrev A49r7 : List AIns := [⟨(some 17), (.mv (.tmp 5)), none⟩, ⟨(some 4), (.mv (.tmp 17)), none⟩]
abbrev A49c8 : ACode := (.seq (.reg A49r5 [0, 1, 5, 7, 8]) (.seq (.reg A49r6 [0, 1, 5, 7, 8, 16]) (.cond (.tmp 16) [5] (.seq (.reg A49r7 [4]) .ret) [0, 1, 7, 8] .skip)))
abbrev A49r9 : List AIns := [⟨(some 18), (.bin .add (.tmp 8) (.cst (.int .i64 1))), none⟩, ⟨(some 8), (.mv (.tmp 18)), none⟩]
abbrev A49l3 : ACode := (.seq (.reg A49r4 [0, 1, 7, 8, 9]) (.seq (.cond (.tmp 9) [0, 1, 7, 8] .skip [] (.exit 0)) (.seq (.block 1 A49c8) (.reg A49r9 [0, 1, 7, 8]))))
abbrev A49r10 : List AIns := [⟨(some 4), (.mv (.cst (.int .i64 (-1)))), none⟩]
def A49 : AFun := ⟨19, 2, [(.tmp 4)], (.seq (.reg A49r1 [0, 1]) (.seq (.seq (.reg A49r2 [0, 1, 7, 8]) (.block 0 (.loop A49l3))) (.seq (.reg A49r10 [4]) .ret)))⟩
theorem A49c : compF Try.prog Try.f49 = some A49 := by kernel_rfl
theorem A49k : Callable Try.prog 49 := fun a w => Try.call49 a w
theorem A49p {ds : List D} {r : D} (hl : ds.length ≤ A49.nt) (hw : W Try.prog A49.code (Fin A49.results r) ⟨argEnv 0 ds, fun _ => none⟩) : PCon Try.prog 49 ds r := pcon_of_W mixed Try.func49 A49k A49c hl hw
/- slices.Index[[]int,int] -/
abbrev A50r1 : List AIns := [⟨(some 4), (.mv (.cst (.int .i64 0))), none⟩]
abbrev A50r2 : List AIns := [⟨(some 6), (.mv (.tmp 0)), none⟩, ⟨(some 7), (.len (.tmp 6)), none⟩, ⟨(some 8), (.mv (.cst (.int .i64 0))), none⟩]
abbrev A50r4 : List AIns := [⟨(some 9), (.bin .lss (.tmp 8) (.tmp 7)), none⟩]
abbrev A50r5 : List AIns := [⟨(some 10), (.mv (.tmp 8)), none⟩, ⟨(some 5), (.mv (.tmp 10)), none⟩]
abbrev A50r6 : List AIns := [⟨(some 11), (.mv (.tmp 1)), none⟩, ⟨(some 12), (.mv (.tmp 0)), none⟩, ⟨(some 13), (.mv (.tmp 5)), none⟩, ⟨(some 14), (.iaddr 1 (.tmp 12) (.tmp 13)), none⟩, ⟨(some 15), (.load false 1 (.tmp 14)), none⟩, ⟨(some 16), (.bin .eql (.tmp 11) (.tmp 15)), none⟩]
abbrev A50r7 : List AIns := [⟨(some 17), (.mv (.tmp 5)), none⟩, ⟨(some 4), (.mv (.tmp 17)), none⟩]
abbrev A50c8 : ACode := (.seq (.reg A50r5 [0, 1, 5, 7, 8]) (.seq (.reg A50r6 [0, 1, 5, 7, 8, 16]) (.cond (.tmp 16) [5] (.seq (.reg A50r7 [4]) .ret) [0, 1, 7, 8] .skip)))
abbrev A50r9 : List AIns := [⟨(some 18), (.bin .add (.tmp 8) (.cst (.int .i64 1))), none⟩, ⟨(some 8), (.mv (.tmp 18)), none⟩]
abbrev A50l3 : ACode := (.seq (.reg A50r4 [0, 1, 7, 8, 9]) (.seq (.cond (.tmp 9) [0, 1, 7, 8] .skip [] (.exit 0)) (.seq (.block 1 A50c8) (.reg A50r9 [0, 1, 7, 8]))))
abbrev A50r10 : List AIns := [⟨(some 4), (.mv (.cst (.int .i64 (-1)))), none⟩]
def A50 : AFun := ⟨19, 2, [(.tmp 4)], (.seq (.reg A50r1 [0, 1]) (.seq (.seq (.reg A50r2 [0, 1, 7, 8]) (.block 0 (.loop A50l3))) (.seq (.reg A50r10 [4]) .ret)))⟩
theorem A50c : compF Try.prog Try.f50 = some A50 := by kernel_rfl
theorem A50k : Callable Try.prog 50 := fun a w => Try.call50 a w
theorem A50p {ds : List D} {r : D} (hl : ds.length ≤ A50.nt) (hw : W Try.prog A50.code (Fin A50.results r) ⟨argEnv 0 ds, fun _ => none⟩) : PCon Try.prog 50 ds r := pcon_of_W mixed Try.func50 A50k A50c hl hw
/- estovers/estoversref19.in -/
abbrev A51r1 : List AIns := [⟨(some 2), (.mv (.cst (.bool false))), none⟩]
abbrev A51r2 : List AIns := [⟨(some 3), (.mv (.tmp 0)), none⟩, ⟨(some 4), (.bin .geq (.tmp 3) (.cst (.int .i64 0))), none⟩, ⟨(some 5), (.mv (.tmp 4)), none⟩, ⟨(some 6), (.mv (.tmp 0)), (some (5, true))⟩, ⟨(some 7), (.bin .leq (.tmp 6) (.cst (.int .i64 1048576))), (some (5, true))⟩, ⟨(some 8), (.pick (.tmp 5) (.tmp 7) (.cst (.bool false))), none⟩, ⟨(some 2), (.mv (.tmp 8)), none⟩]
def A51 : AFun := ⟨9, 1, [(.tmp 2)], (.seq (.reg A51r1 [0]) (.seq (.reg A51r2 [2]) .ret))⟩
theorem A51c : compF Try.prog Try.f51 = some A51 := by kernel_rfl
theorem A51k : Callable Try.prog 51 := fun a w => Try.call51 a w
theorem A51p {ds : List D} {r : D} (hl : ds.length ≤ A51.nt) (hw : W Try.prog A51.code (Fin A51.results r) ⟨argEnv 0 ds, fun _ => none⟩) : PCon Try.prog 51 ds r := pcon_of_W mixed Try.func51 A51k A51c hl hw
end Go.Proofs.Ytolnhkpckbgmgaa
end
section
/- Generations: contracts by value, for any valid lists. -/
set_option linter.unusedSimpArgs false
set_option linter.unusedVariables false
namespace Go.Proofs.Ytolnhkpckbgmgaa
open Go.AM Go.RowKit
abbrev intsD (z : List Int) : List D := z.map (D.int .i64)
abbrev rowD (z : List Int) : D := .vs 1 (intsD z) z.length
abbrev rowsD (zs : List (List Int)) : D := .vs 1 (zs.map rowD) 4
def i64v (x : Int) : I64 := if h : (Lit.int .i64 x).wf = true then ⟨x, h⟩ else z0
theorem i64v_ok {x : Int} (h : okFr x) : (i64v x).1 = x := by
  unfold i64v
  rw [dif_pos]
  obtain ⟨h0, h1⟩ := h
  simp [Lit.wf, IntKind.has, IntKind.min, IntKind.max, IntKind.bits, IntKind.signed]
  omega
abbrev lift (z : List Int) : List I64 := z.map i64v
abbrev lifts (zs : List (List Int)) : List (List I64) := zs.map lift
theorem lift_vals {z : List Int} (h : ∀ x ∈ z, okFr x) : (lift z).map (fun x => x.1) = z := by
  rw [List.map_map]
  conv => rhs; rw [← List.map_id z]
  exact List.map_congr_left fun x hx => i64v_ok (h x hx)
theorem lift_iv {z : List Int} (h : ∀ x ∈ z, okFr x) : (lift z).map iv = z.map (Value.int .i64) := by
  rw [List.map_map]
  exact List.map_congr_left fun x hx => by show Value.int .i64 (i64v x).1 = _; rw [i64v_ok (h x hx)]
structure GensI (zs : List (List Int)) : Prop where
  len : zs.length = 4
  fr : ∀ z ∈ zs, ∀ x ∈ z, okFr x
  nd : zs.flatten.Nodup
  small : zs.flatten.length ≤ 1000
theorem GensI.fr' {zs : List (List Int)} (h : GensI zs) : ∀ x ∈ zs.flatten, okFr x := fun x hx => by
  obtain ⟨z, hz, hx⟩ := List.mem_flatten.1 hx
  exact h.fr z hz x hx
theorem lifts_flat (zs : List (List Int)) : (lifts zs).flatten = lift zs.flatten := by
  rw [lift, List.map_flatten]
theorem GensI.gens {zs : List (List Int)} (h : GensI zs) : Gens (lifts zs) := by
  have e := lifts_flat zs
  have ev := lift_vals h.fr'
  refine ⟨by simpa using h.len, ?_, ?_, ?_⟩
  · rw [e]
    intro x hx
    obtain ⟨y, hy, rfl⟩ := List.mem_map.1 hx
    rw [i64v_ok (h.fr' y hy)]; exact h.fr' y hy
  · rw [e, ev]; exact h.nd
  · rw [e]; simpa only [List.length_map] using h.small
/-! ### Reading -/
theorem rp_vs {w : World} {p : Nat → Prop} {v : Value} {sz len : Nat} {cells : List D} (h : RP w p v (.vs sz cells len)) : (len = 0 ∧ ∃ a cap, v = .slice a 0 cap) ∨ ∃ (b off cap : Nat) (cs : List Value), v = .slice (some ⟨b, off, none⟩) len cap ∧ p b ∧ cs.length = cells.length ∧ (∀ (i : Nat) (v : Value), cs[i]? = some v → w.cell? ⟨b, off + i, none⟩ = some v) ∧ (∀ (i : Nat) (v : Value) (d : D), cs[i]? = some v → cells[i]? = some d → RP w p v d) := by
  cases h with
  | vs0 a cap sz => exact .inl ⟨rfl, a, cap, rfl⟩
  | vs b off cap sz len cells cs hl hc hb hcs ho hm hr => exact .inr ⟨b, off, cap, cs, rfl, hb, hcs, hm, hr⟩
theorem rp_int {w : World} {p : Nat → Prop} {v : Value} {k : IntKind} {n : Int} (h : RP w p v (.int k n)) : v = .int k n := by cases h; rfl
theorem rp_row {w : World} {n₀ : Nat} {v : Value} {z : List Int} (hz : ∀ x ∈ z, okFr x) (h : RP w (below n₀) v (rowD z)) : IntsAt n₀ w v (lift z) := by
  rcases rp_vs h with ⟨h0, a, cap, rfl⟩ | ⟨b, off, cap, cs, rfl, hb, hl, hm, hr⟩
  · obtain rfl := List.length_eq_zero_iff.1 h0
    exact ⟨a, cap, rfl, fun j hj => by simp at hj⟩
  · refine ⟨some ⟨b, off, none⟩, cap, by simp, fun j hj => ⟨b, off, rfl, hb, ?_⟩⟩
    have hj' : j < z.length := by simpa using hj
    have hjc : j < cs.length := by rw [hl]; simpa using hj'
    have h1 := hm j _ (List.getElem?_eq_getElem hjc)
    have h2 := rp_int (hr j _ (.int .i64 z[j]) (List.getElem?_eq_getElem hjc) (by simp [hj']))
    rw [h1, h2, List.getElem?_map, List.getElem?_eq_getElem hj']
    show _ = some (Value.int .i64 (i64v z[j]).1)
    rw [i64v_ok (hz _ (List.getElem_mem hj'))]
theorem rp_rows {w : World} {n₀ : Nat} {v : Value} {zs : List (List Int)} (hn : zs.length = 4) (hz : ∀ z ∈ zs, ∀ x ∈ z, okFr x) (h : RP w (below n₀) v (rowsD zs)) : ∃ b off cap, v = .slice (some ⟨b, off, none⟩) 4 cap ∧ b < n₀ ∧ RowsAt n₀ w b off (lifts zs) := by
  rcases rp_vs h with ⟨h0, _⟩ | ⟨b, off, cap, cs, rfl, hb, hl, hm, hr⟩
  · cases h0
  · refine ⟨b, off, cap, rfl, hb, fun j hj => ?_⟩
    have hj' : j < zs.length := by simpa using hj
    have hjc : j < cs.length := by rw [hl]; simpa using hj'
    have h1 := hm j _ (List.getElem?_eq_getElem hjc)
    have h2 := hr j _ (rowD zs[j]) (List.getElem?_eq_getElem hjc) (by simp [hj'])
    refine ⟨_, h1, ?_⟩
    rw [List.getElem?_map, List.getElem?_eq_getElem hj']
    exact rp_row (hz _ (List.getElem_mem hj')) h2
/-! ### Handing over -/
theorem row_rp {W : World} {base : Nat} {v : Value} {z : List Int} (hz : ∀ x ∈ z, okFr x) (h : W.ownsRow base 3 1 v (lift z).length ((lift z).map iv)) : RP W (fun b => base ≤ b ∧ b < W.heap.size ∧ (none : Option Nat) ≠ some b) v (rowD z) := by
  rw [lift_iv hz] at h
  simp only [List.length_map] at h
  rcases h.2 with ⟨rfl, h0⟩ | ⟨g, cap, cur, rfl, hb, hg, hnc, _, hcs, htk⟩
  · obtain rfl := List.length_eq_zero_iff.1 h0
    exact .vs0 none 0 1
  · have hlt := (Array.getElem?_eq_some_iff.1 hg).1
    refine .vs g 0 cap 1 z.length (intsD z) (z.map (Value.int .i64)) (by simp) hnc ⟨hb, hlt, by simp⟩ (by simp) ?_ ?_ ?_
    · intro u hu
      obtain ⟨x, _, rfl⟩ := List.mem_map.1 hu
      rfl
    · intro i u hu
      rw [← htk, List.getElem?_take] at hu
      split at hu
      · simp only [World.cell?, hg]
        simpa using hu
      · cases hu
    · intro i u d hu hd
      rw [List.getElem?_map] at hu hd
      cases hzi : z[i]? with
      | none => rw [hzi] at hu; cases hu
      | some x => rw [hzi] at hu hd; cases hu; cases hd; exact .int _ _
theorem rows_rp {W : World} {base r : Nat} {vs : List Value} {zs : List (List Int)} (hn : zs.length = 4) (hz : ∀ z ∈ zs, ∀ x ∈ z, okFr x) (h : Own4 W base r vs (lifts zs)) : RP W (fun b => base ≤ b ∧ b < W.heap.size ∧ (none : Option Nat) ≠ some b) (.slice (some ⟨r, 0, none⟩) 4 4) (rowsD zs) := by
  have hl : vs.length = 4 := by rw [h.len]; simpa using hn
  have hown : ∀ (i : Nat) (v : Value) (z : List Int), vs[i]? = some v → zs[i]? = some z → W.ownsRow base 3 1 v (lift z).length ((lift z).map iv) := fun i v z hv hzi => h.own i v (lift z) hv (by rw [List.getElem?_map, hzi]; rfl)
  refine .vs r 0 4 1 4 (zs.map rowD) vs (by simp [hn]) (Nat.le_refl _) ⟨h.lo, h.hi, by simp⟩ (by simp [hl, hn]) ?_ ?_ ?_
  · intro v hv
    obtain ⟨i, hi⟩ := List.mem_iff_getElem?.1 hv
    have hlt : i < zs.length := by
      rcases Nat.lt_or_ge i vs.length with h' | h'
      · omega
      · rw [List.getElem?_eq_none h'] at hi; cases hi
    obtain ⟨a, cap, rfl⟩ := ownsRow_slice (hown i v _ hi (List.getElem?_eq_getElem hlt))
    rfl
  · intro i v hv
    rw [Nat.zero_add]
    exact (h.cell hv).1
  · intro i v d hv hd
    rw [List.getElem?_map] at hd
    cases hzi : zs[i]? with
    | none => rw [hzi] at hd; cases hd
    | some z =>
      rw [hzi] at hd; cases hd
      exact row_rp (hz z (List.mem_of_getElem? hzi)) (hown i v z hv hzi)
theorem two_out {w' : World} {base : Nat} {v u : Value} {d e : D} (h1 : isOw d = false) (h2 : isOw e = false) (r1 : RP w' (fun b => base ≤ b ∧ b < w'.heap.size ∧ (none : Option Nat) ≠ some b) v d) (r2 : RP w' (fun b => base ≤ b ∧ b < w'.heap.size ∧ (none : Option Nat) ≠ some b) u e) : Out base w' (.tuple #[v, u]) (.tup [d, e]) := by
  refine ⟨none, by simp, by simp [nOw, h1, h2], #[v, u], rfl, rfl, fun i x y hx hy => ?_⟩
  obtain rfl | rfl : i = 0 ∨ i = 1 := by
    have : i < 2 := by
      rcases Nat.lt_or_ge i 2 with h | h
      · exact h
      · rw [List.getElem?_eq_none (show [d, e].length ≤ i from h)] at hy; cases hy
    omega
  · simp at hx hy
    subst hx hy
    cases d <;> first | (cases h1; done) | exact r1
  · simp at hx hy
    subst hx hy
    cases e <;> first | (cases h2; done) | exact r2
theorem below_same {B : Nat} {w w' : World} (h : Below B w w') : SameO w w' := ⟨h.os, h.tape, h.output⟩
theorem lifts_set {zs : List (List Int)} (j : Nat) (f : Int) : lifts (zs.set j ((zs[j]?.getD []) ++ [f])) = (lifts zs).set j (((lifts zs)[j]?.getD []) ++ [i64v f]) := by
  rw [lifts, List.map_set, List.getElem?_map]
  cases zs[j]? <;> simp
def addF (zs : List (List Int)) (j : Nat) (f : Int) : List (List Int) := zs.set j ((zs[j]?.getD []) ++ [f])
theorem addF_fr {zs : List (List Int)} (hz : ∀ z ∈ zs, ∀ x ∈ z, okFr x) {j : Nat} {f : Int} (hf : okFr f) : ∀ z ∈ addF zs j f, ∀ x ∈ z, okFr x := by
  intro z hzm x hx
  rcases List.mem_or_eq_of_mem_set hzm with h | rfl
  · exact hz z h x hx
  · rcases List.mem_append.1 hx with h | h
    · cases hj : zs[j]? with
      | none => rw [hj] at h; cases h
      | some y => rw [hj] at h; exact hz y (List.mem_of_getElem? hj) x h
    · rw [List.mem_singleton.1 h]; exact hf
theorem add_v {zs : List (List Int)} (hG : GensI zs) {j : Nat} (hj : j < 4) {f : Int} (hf : okFr f) (hn : f ∉ zs.flatten) : PCon Try.prog 6 [rowsD zs, .int .i64 j, .int .i64 f] (.tup [rowsD (addF zs j f), .int .i64 0]) := by
  refine ⟨A6k, fun w args hA => ?_⟩
  obtain ⟨args⟩ := args
  match args, hA.1 with
  | [v1, v2, v3], _ =>
    obtain ⟨b, off, cap, rfl, hb, hr⟩ := rp_rows hG.len hG.fr (hA.2 0 v1 _ rfl rfl)
    obtain rfl := rp_int (hA.2 1 v2 _ rfl rfl)
    obtain rfl := rp_int (hA.2 2 v3 _ rfl rfl)
    have h := AddV_in Fence.wide 6 trivial trivial trivial trivial trivial trivial trivial trivial rfl (by omega) b off cap (lifts zs) hG.gens w hb hr j hj (i64v f) (by rw [i64v_ok hf]; exact hf) (by
      rw [lifts_flat, lift_vals hG.fr', i64v_ok hf]; exact hn)
    rw [i64v_ok hf] at h
    refine (callsIn_wide.1 h).mono ?_
    rintro e w' ⟨r, vs, rfl, ho, hB⟩
    refine ⟨_, rfl, fun b hb => hB.block b hb, hB.size, below_same hB, two_out rfl rfl ?_ (.int _ _)⟩
    rw [← lifts_set] at ho
    exact rows_rp (by simpa [addF] using hG.len) (addF_fr hG.fr hf) ho
theorem new_v : PCon Try.prog 5 [] (rowsD [[], [], [], []]) := by
  refine ⟨A5k, fun w args hA => ?_⟩
  obtain ⟨args⟩ := args
  match args, hA.1 with
  | [], _ =>
    have h := New_in Fence.wide 6 trivial rfl w
    refine (callsIn_wide.1 h).mono ?_
    rintro e w' ⟨rfl, rfl⟩
    have hB := (Below.refl w.heap.size w).alloc (Nat.le_refl _) (.cells #[.slice none 0 0, .slice none 0 0, .slice none 0 0, .slice none 0 0] 29)
    exact ⟨_, rfl, fun b hb => hB.block b hb, hB.size, below_same hB, none, by simp, rows_rp (zs := [[], [], [], []]) rfl (by simp) (own4_new w)⟩
theorem check_v {zs : List (List Int)} (hG : GensI zs) : PCon Try.prog 14 [rowsD zs] (.int .i64 0) := by
  refine ⟨fun a w => Try.call14 a w, fun w args hA => ?_⟩
  obtain ⟨args⟩ := args
  match args, hA.1 with
  | [v1], _ =>
    obtain ⟨b, off, cap, rfl, hb, hr⟩ := rp_rows hG.len hG.fr (hA.2 0 v1 _ rfl rfl)
    have hg := hG.gens
    have h := Check_in Fence.wide 6 trivial trivial trivial trivial trivial rfl (by omega) b off cap (lifts zs) hg.len (fun z hz => Nat.le_trans (hg.row z hz) (by decide)) (by rw [hg.rlen]; have := hg.small; unfold maxLen; omega) w hb hr hg.ok hg.size
    rw [hg.len] at h
    refine (callsIn_wide.1 h).mono ?_
    rintro e w' ⟨rfl, hB⟩
    exact ⟨_, rfl, fun b hb => hB.block b hb, hB.size, below_same hB, none, by simp, .int _ _⟩
/-! ### Age -/
def cold (us z : List Int) : List Int := z.filter fun x => !us.contains x
def ageI (zs : List (List Int)) (us : List Int) : List (List Int) :=
  [cold us (zs[0]?.getD []) ++ cold us (zs[1]?.getD []), cold us (zs[2]?.getD []), cold us (zs[3]?.getD []), zs.flatten.filter fun x => us.contains x]
def pick4 (hot : List Int) (k : Nat) (pre : List (K64 × I64)) : List I64 := (pre.filter fun x => toG hot x == k).map fun x => x.2
theorem pick4_snoc (hot : List Int) (k : Nat) (pre : List (K64 × I64)) (x : K64 × I64) : pick4 hot k (pre ++ [x]) = if toG hot x = k then pick4 hot k pre ++ [x.2] else pick4 hot k pre := by
  unfold pick4
  rw [List.filter_append, List.map_append]
  by_cases h : toG hot x = k <;> simp [h]
theorem ageTo_pick {hot : List Int} (l : List (K64 × I64)) (h4 : ∀ x ∈ l, x.1.1 < 4) : ageTo hot l = [pick4 hot 0 l, pick4 hot 1 l, pick4 hot 2 l, pick4 hot 3 l] := by
  suffices h : ∀ (l pre : List (K64 × I64)), (∀ x ∈ l, x.1.1 < 4) → ageTo hot pre = [pick4 hot 0 pre, pick4 hot 1 pre, pick4 hot 2 pre, pick4 hot 3 pre] → ageTo hot (pre ++ l) = [pick4 hot 0 (pre ++ l), pick4 hot 1 (pre ++ l), pick4 hot 2 (pre ++ l), pick4 hot 3 (pre ++ l)] from by
    simpa using h l [] h4 rfl
  intro l
  induction l with
  | nil => intro pre _ h; simpa using h
  | cons x r ih =>
    intro pre h4 h
    have := ih (pre ++ [x]) (fun y hy => h4 y (by simp [hy])) (by
      have hx : toG hot x < 4 := by
        have := h4 x (by simp)
        unfold toG; split <;> omega
      rw [ageTo_snoc, h]
      simp only [pick4_snoc]
      generalize toG hot x = t at *
      obtain rfl | rfl | rfl | rfl : t = 0 ∨ t = 1 ∨ t = 2 ∨ t = 3 := by omega
      all_goals rfl)
    simpa using this
theorem pick4_app (hot : List Int) (k : Nat) (a b : List (K64 × I64)) : pick4 hot k (a ++ b) = pick4 hot k a ++ pick4 hot k b := by simp [pick4]
theorem fromRow_eq {z : List Int} (k : Nat) : fromRow (lift z) k (lift z).length = z.map fun x => (k64 k, i64v x) := by
  unfold fromRow
  refine List.ext_getElem (by simp) fun j h1 h2 => ?_
  have hj : j < z.length := by simpa using h2
  simp [List.getElem?_eq_getElem hj]
theorem pick4_row {hot z : List Int} (hz : ∀ x ∈ z, okFr x) {a k : Nat} (ha : a < 4) : pick4 hot k (z.map fun x => (k64 a, i64v x)) = lift (z.filter fun x => (if hot.contains x then 3 else a - 1) == k) := by
  unfold pick4
  induction z with
  | nil => rfl
  | cons x r ih =>
    have ih := ih (fun y hy => hz y (by simp [hy]))
    have hx := i64v_ok (hz x (by simp))
    have ht : toG hot (k64 a, i64v x) = if hot.contains x then 3 else a - 1 := by
      unfold toG
      simp only [hx, k64_val (show a ≤ 1000000 by omega)]
    rw [List.map_cons, List.filter_cons, ht, List.filter_cons]
    generalize ((if hot.contains x then 3 else a - 1) == k) = bb
    cases bb
    · exact ih
    · show _ :: _ = _ :: _
      rw [ih]
theorem ageI_eq {zs : List (List Int)} (hG : GensI zs) (us : List Int) : ageTo us (fromRows (lifts zs) (lifts zs).length) = lifts (ageI zs us) := by
  have h4 := hG.len
  match zs, h4 with
  | [a, b, c, d], _ =>
    have hfa : ∀ x ∈ a, okFr x := hG.fr a (by simp)
    have hfb : ∀ x ∈ b, okFr x := hG.fr b (by simp)
    have hfc : ∀ x ∈ c, okFr x := hG.fr c (by simp)
    have hfd : ∀ x ∈ d, okFr x := hG.fr d (by simp)
    have e : fromRows (lifts [a, b, c, d]) (lifts [a, b, c, d]).length = (a.map fun x => (k64 0, i64v x)) ++ (b.map fun x => (k64 1, i64v x)) ++ (c.map fun x => (k64 2, i64v x)) ++ (d.map fun x => (k64 3, i64v x)) := by
      show fromRows (lifts [a, b, c, d]) 4 = _
      rw [fromRows_succ, fromRows_succ, fromRows_succ, fromRows_succ]
      simp only [lifts, List.map_cons, List.map_nil, List.getElem?_cons_zero, List.getElem?_cons_succ, Option.getD_some, fromRow_eq]
      rfl
    rw [e, ageTo_pick _ (by
      intro x hx
      simp only [List.mem_append, List.mem_map] at hx
      rcases hx with ((⟨y, _, rfl⟩ | ⟨y, _, rfl⟩) | ⟨y, _, rfl⟩) | ⟨y, _, rfl⟩ <;> simp only [k64_val (show (0 : Nat) ≤ 1000000 by omega), k64_val (show 1 ≤ 1000000 by omega), k64_val (show 2 ≤ 1000000 by omega), k64_val (show 3 ≤ 1000000 by omega)] <;> omega)]
    simp only [pick4_app, pick4_row hfa (show 0 < 4 by omega), pick4_row hfb (show 1 < 4 by omega), pick4_row hfc (show 2 < 4 by omega), pick4_row hfd (show 3 < 4 by omega)]
    simp only [ageI, lifts, List.map_cons, List.map_nil, List.getElem?_cons_zero, List.getElem?_cons_succ, Option.getD_some, List.flatten_cons, List.flatten_nil, List.append_nil, lift, List.map_append, List.filter_append, cold]
    have q : ∀ (z : List Int) (a k : Nat), a < 3 → k < 3 → (z.filter fun x => (if us.contains x then 3 else a) == k) = if a = k then z.filter fun x => !us.contains x else [] := by
      intro z a k ha hk
      by_cases e : a = k
      · subst e
        rw [if_pos rfl]
        apply List.filter_congr
        intro x _
        cases us.contains x <;> simp <;> omega
      · rw [if_neg e, List.filter_eq_nil_iff]
        intro x _
        cases us.contains x <;> simp <;> omega
    have q3 : ∀ (z : List Int) (a : Nat), a < 3 → (z.filter fun x => (if us.contains x then 3 else a) == 3) = z.filter fun x => us.contains x := by
      intro z a ha
      apply List.filter_congr
      intro x _
      cases us.contains x <;> simp <;> omega
    simp only [q _ (0 - 1) _ (by omega) (by omega : (0 : Nat) < 3), q _ (0 - 1) _ (by omega) (by omega : (1 : Nat) < 3), q _ (0 - 1) _ (by omega) (by omega : (2 : Nat) < 3),
      q _ (1 - 1) _ (by omega) (by omega : (0 : Nat) < 3), q _ (1 - 1) _ (by omega) (by omega : (1 : Nat) < 3), q _ (1 - 1) _ (by omega) (by omega : (2 : Nat) < 3),
      q _ (2 - 1) _ (by omega) (by omega : (0 : Nat) < 3), q _ (2 - 1) _ (by omega) (by omega : (1 : Nat) < 3), q _ (2 - 1) _ (by omega) (by omega : (2 : Nat) < 3),
      q _ (3 - 1) _ (by omega) (by omega : (0 : Nat) < 3), q _ (3 - 1) _ (by omega) (by omega : (1 : Nat) < 3), q _ (3 - 1) _ (by omega) (by omega : (2 : Nat) < 3),
      q3 _ (0 - 1) (by omega), q3 _ (1 - 1) (by omega), q3 _ (2 - 1) (by omega), q3 _ (3 - 1) (by omega)]
    simp
theorem ageI_fr {zs : List (List Int)} (hG : GensI zs) (us : List Int) : ∀ z ∈ ageI zs us, ∀ x ∈ z, okFr x := by
  have hg : ∀ k : Nat, ∀ x ∈ zs[k]?.getD [], okFr x := fun k x hx => by
    cases hk : zs[k]? with
    | none => rw [hk] at hx; cases hx
    | some z => rw [hk] at hx; exact hG.fr z (List.mem_of_getElem? hk) x hx
  intro z hz x hx
  simp only [ageI, List.mem_cons, List.not_mem_nil, or_false] at hz
  rcases hz with rfl | rfl | rfl | rfl
  · rcases List.mem_append.1 hx with h | h
    · exact hg 0 x (List.mem_filter.1 h).1
    · exact hg 1 x (List.mem_filter.1 h).1
  · exact hg 2 x (List.mem_filter.1 hx).1
  · exact hg 3 x (List.mem_filter.1 hx).1
  · exact hG.fr' x (List.mem_filter.1 hx).1
theorem age_v {zs : List (List Int)} (hG : GensI zs) {us : List Int} (hu : ∀ x ∈ us, x ∈ zs.flatten) (hn : us.Nodup) (hl : us.length ≤ 1000) : PCon Try.prog 7 [rowsD zs, rowD us] (.tup [rowsD (ageI zs us), .int .i64 0]) := by
  have huf : ∀ x ∈ us, okFr x := fun x hx => hG.fr' x (hu x hx)
  refine ⟨fun a w => Try.call7 a w, fun w args hA => ?_⟩
  obtain ⟨args⟩ := args
  match args, hA.1 with
  | [v1, v2], _ =>
    obtain ⟨b, off, cap, rfl, hb, hr⟩ := rp_rows hG.len hG.fr (hA.2 0 v1 _ rfl rfl)
    have hU := rp_row huf (hA.2 1 v2 _ rfl rfl)
    have h := Age_in Fence.wide 6 trivial trivial trivial trivial trivial trivial trivial rfl (by omega) b off cap (lifts zs) hG.gens w hb hr v2 (lift us) (by simpa using hl) hU (by
      intro x hx
      obtain ⟨y, hy, rfl⟩ := List.mem_map.1 hx
      rw [lifts_flat, lift_vals hG.fr', i64v_ok (huf y hy)]; exact hu y hy) (by rw [lift_vals huf]; exact hn)
    refine (callsIn_wide.1 h).mono ?_
    rintro e w' ⟨r, vs, rfl, ho, hB⟩
    rw [lift_vals huf, ageI_eq hG] at ho
    exact ⟨_, rfl, fun b hb => hB.block b hb, hB.size, below_same hB, two_out rfl rfl (rows_rp rfl (ageI_fr hG us) ho) (.int _ _)⟩
end Go.Proofs.Ytolnhkpckbgmgaa
end
section
/- Generations: Order. -/
set_option linter.unusedSimpArgs false
set_option linter.unusedVariables false
namespace Go.Proofs.Ytolnhkpckbgmgaa
open Go.AM Go.RowKit Go.Lib Go.Shelf
set_option maxHeartbeats 2000000 in
set_option maxRecDepth 100000 in
theorem grow_m (n : Nat) (hn : n ≤ 1000000) (w : World) : Calls Try.prog 30 #[.slice none 0 0, .int .i64 n] w fun e w' =>
    (e = .returned (.slice none 0 0) ∧ w' = w) ∨ ∃ G, e = .returned (.slice (some ⟨w.heap.size, 0, none⟩) 0 G) ∧ ∃ cs, w' = w.drew.alloc (.cells cs 3) ∧ cs.size = G := by
  obtain ⟨i0, hi, hz0, hz1, hz2⟩ := info_parts infoIv
  have h1 : ¬ ((n : Int) < 0) := by omega
  have h2 : wrap64 (n : Int) = (n : Int) := by unfold wrap64; omega
  have u22 := run_underlying (P := Try.prog) Try.underlying29
  by_cases hn0 : n = 0
  · subst hn0
    refine calls_of_wp Try.func30 rfl ?_
    simp only [Try.ntmps30, List.size_toArray, List.length_cons, List.length_nil, Nat.reduceAdd, Nat.reduceSub, Array.replicate_succ, Array.replicate_zero, List.push_toArray, List.append_toArray, List.nil_append, List.cons_append]
    go_wp2
    go_ret
    exact .inl ⟨rfl, rfl⟩
  · have hold : (Builtin.firstCells i0.size 0 (.slice none 0 0)).run Try.prog w.drew = .ok ([] : List Value).toArray w.drew := run_firstCells_none w.drew i0.size 0 0 0
    have hrz : ∀ ty, (Builtin.append_ #[29, 3] ty #[.slice none 0 0, .int .i64 (n : Int)]).run Try.prog w =
        .ok (.slice (some ⟨w.heap.size, 0, none⟩) n (grownCap w n 0 3)) (w.drew.alloc (.cells (([] : List Value).toArray ++ Builtin.zeroCells (Value.int .i64 0).cells n ++ Builtin.zeroCells (Value.int .i64 0).cells (grownCap w n 0 3 - n)) 3)) := fun ty => by
      have h := Lib.run_append_grow_zeros w 29 3 ty 3 i0 (.int .i64 0) .i64 .i64 Try.underlying29 Try.underlying3 hi hz0 none 0 0 [] hold n (by omega) (by omega) (by omega) (by omega) (by rw [hz2]; omega)
        (growslice_fits (need := 0 + n) (old := 0) (bytes := i0.bytes) (by omega) (by rw [hz2]; omega))
      simpa using h
    have hGn : n ≤ grownCap w n 0 3 := grownCap_ge w _ _ _
    have hsz : (([] : List Value).toArray ++ Builtin.zeroCells (Value.int .i64 0).cells n ++ Builtin.zeroCells (Value.int .i64 0).cells (grownCap w n 0 3 - n)).size = grownCap w n 0 3 := by
      have hz : ∀ k, (Builtin.zeroCells (Value.int .i64 0).cells k).size = k := fun k => by simp [Builtin.zeroCells, Value.cells]
      rw [Array.size_append, Array.size_append, hz, hz]
      simp
      omega
    have hG63 : grownCap w n 0 3 ≤ 9223372036854775807 := by
      have := grownCap_le_maxLen w n 0 3 (by unfold maxLen; omega)
      unfold maxLen at this
      omega
    have hp : (n : Int) > 0 := by omega
    generalize grownCap w n 0 3 = G at *
    refine calls_of_wp Try.func30 rfl ?_
    simp only [Try.ntmps30, List.size_toArray, List.length_cons, List.length_nil, Nat.reduceAdd, Nat.reduceSub, Array.replicate_succ, Array.replicate_zero, List.push_toArray, List.append_toArray, List.nil_append, List.cons_append]
    go_wp2_with (at_builtin; refine Lib.wpList_append_run _ rfl _ _ _ _ rfl _ _ rfl rfl _ _ (hrz _) ?_)
    all_goals go_ret
    all_goals exact .inr ⟨G, rfl, _, rfl, by simpa [Value.cells] using hsz⟩
theorem grow_v {n : Nat} (hn : n ≤ 1000000) : PCon Try.prog 30 [.nil, .int .i64 n] (.ow 1 [] 0) := by
  refine ⟨A30k, fun w args hA => ?_⟩
  obtain ⟨args⟩ := args
  match args, hA.1 with
  | [v1, v2], _ =>
    have h1 : v1 = .slice none 0 0 := by have h := hA.2 0 v1 _ rfl rfl; cases h; rfl
    subst h1
    obtain rfl := rp_int (hA.2 1 v2 _ rfl rfl)
    refine (grow_m n hn w).mono ?_
    rintro e w' (⟨rfl, rfl⟩ | ⟨G, rfl, cs, rfl, hcs⟩)
    · exact ⟨_, rfl, fun _ _ => rfl, Nat.le_refl _, .refl _, none, by simp, none, 0, rfl, Nat.le_refl _, rfl, fun _ => rfl, by simp⟩
    · refine ⟨_, rfl, fun b hb => ?_, by simp, ⟨rfl, rfl, rfl⟩, some w.heap.size, fun b e => ?_, some ⟨w.heap.size, 0, none⟩, G, rfl, Nat.zero_le _, rfl, (by intro h; cases h), fun b e => ?_⟩
      · exact Below.heap_alloc w.drew _ _ hb
      · cases e; simp
      · cases e
        exact ⟨cs, _, World.alloc_heap_new w.drew _, ⟨by simp, fun i v d hv hd => by simp at hd⟩, fun h => absurd rfl h, .inr ⟨rfl, by omega⟩⟩
set_option maxHeartbeats 4000000 in
set_option maxRecDepth 100000 in
theorem concat_v {zs : List (List Int)} (hz : zs.length = 4) (hs : zs.flatten.length ≤ 1000) : PCon Try.prog 19 [rowsD zs] (.ow 1 (intsD zs.flatten) zs.flatten.length) := by
  have hpre : ∀ k, (zs.take k).flatten.length ≤ zs.flatten.length := fun k => by
    conv => rhs; rw [← List.take_append_drop k zs, List.flatten_append, List.length_append]
    omega
  have hsuc : ∀ k (h : k < zs.length), (zs.take (k + 1)).flatten = (zs.take k).flatten ++ zs[k] := fun k h => by
    rw [List.take_add_one, List.getElem?_eq_getElem h, Option.toList_some, List.flatten_append]; simp
  have hall : zs.take 4 = zs := List.take_of_length_le (by omega)
  have cG := grow_v (n := zs.flatten.length) (by omega)
  refine A19p (by simp [A19]) ?_
  simp only [A19, argEnv]
  repeat' (first | (with_reducible first | refine W_seq ?_ | refine then_n ?_ | refine W_block ?_ | refine blk_n ?_ | refine blk_r ?_ | refine blk_e ?_ | refine W_skip ?_ | refine W_ret ?_ | refine then_r ?_ | refine W_exit ?_ | refine then_e ?_) | (refine blk_j (by decide) ?_) | ((with_reducible refine s_reg ?_); intro K hK) | ((with_reducible refine k_nil ?_); (with_reducible apply s_nil hK); (· exact nmX); clear hK; clear K) | ((with_reducible refine k_cond ?_); (first | ((with_reducible apply s_condT); (· rfl); (· exact nmX)) | ((with_reducible apply s_condF); (· rfl); (· exact nmX)) | ((with_reducible apply s_condS); (· rfl); (· exact nmX); (· exact nmX)))) | ((with_reducible refine k_guard ?_); (first | (refine s_gt rfl ?_) | (refine s_gf1 rfl ?_) | (refine s_gfn rfl ?_) | (refine s_gx1 rfl ?_) | (refine s_gxn rfl ?_) | (refine s_gs rfl ?_))) | ((with_reducible refine k_mv ?_); (refine s_mv rfl ?_)) | ((with_reducible refine k_len ?_); (first | (refine s_len rfl rfl ?_) | ((with_reducible apply s_len); (· rfl); (· exact SlOwn.len (by assumption))))) | ((with_reducible refine k_br ?_); (first | (with_reducible first | refine Br_dec ?_ | refine Br_not ?_ | refine Br_eqF ?_ | refine Br_and ?_ | refine Br_or ?_ | refine Br_neg ?_ | refine Br_band ?_ | refine Br_bor ?_ | refine Br_beq ?_) | (refine Br_t (by first | with_reducible rfl | omega | assumption | rfl) ?_) | (refine Br_f (by first | omega | assumption | decide) ?_) | (with_reducible apply Br_sb <;> intro hbr <;> (first | subst hbr | simp only [hbr] | skip)) | (with_reducible apply Br_s <;> intro hbr))) | (with_reducible refine WN_succ ?_) | ((first | (with_reducible apply q_eqI) | (with_reducible apply q_eqN)); (first | exact nuI | exact nuN)) | ((first | (with_reducible apply q_eqL) | (with_reducible apply q_eqO)); (first | exact liL | exact liO)))
  refine W_for 4 (fun i st => ∃ h', st = ⟨[(0, rowsD zs), (3, .int .i64 (((zs.take i).flatten.length : Nat) : Int)), (9, rowsD zs), (10, .int .i64 4), (11, .int .i64 i)], h'⟩) ⟨_, rfl⟩ ?_ ?_
  · rintro i e' h' hi ⟨h1, he⟩
    cases he
    have hi2 : i < zs.length := by omega
    have hrow : (zs.map rowD)[i]? = some (.vs 1 (intsD zs[i]) zs[i].length) := by rw [List.getElem?_map, List.getElem?_eq_getElem hi2]; rfl
    have h5 := hpre i
    have h6 := hpre (i + 1)
    have h7 : (zs.take (i + 1)).flatten.length = (zs.take i).flatten.length + zs[i].length := by rw [hsuc i hi2, List.length_append]
    rw [h7]
    generalize (zs.take i).flatten.length = a at *
    generalize zs[i] = z at *
    repeat' (first | (with_reducible first | refine W_seq ?_ | refine then_n ?_ | refine W_block ?_ | refine blk_n ?_ | refine blk_r ?_ | refine blk_e ?_ | refine W_skip ?_ | refine W_ret ?_ | refine then_r ?_ | refine W_exit ?_ | refine then_e ?_) | (refine blk_j (by decide) ?_) | ((with_reducible refine s_reg ?_); intro K hK) | ((with_reducible refine k_nil ?_); (with_reducible apply s_nil hK); (· exact nmX); clear hK; clear K) | ((with_reducible refine k_cond ?_); (first | ((with_reducible apply s_condT); (· rfl); (· exact nmX)) | ((with_reducible apply s_condF); (· rfl); (· exact nmX)) | ((with_reducible apply s_condS); (· rfl); (· exact nmX); (· exact nmX)))) | ((with_reducible refine k_guard ?_); (first | (refine s_gt rfl ?_) | (refine s_gf1 rfl ?_) | (refine s_gfn rfl ?_) | (refine s_gx1 rfl ?_) | (refine s_gxn rfl ?_) | (refine s_gs rfl ?_))) | ((with_reducible refine k_mv ?_); (refine s_mv rfl ?_)) | ((with_reducible refine k_len ?_); (first | (refine s_len rfl rfl ?_) | ((with_reducible apply s_len); (· rfl); (· exact SlOwn.len (by assumption))))) | ((with_reducible refine k_lss ?_); (refine s_lss rfl rfl ?_)) | ((with_reducible refine k_iaddr ?_); (first | ((with_reducible apply s_iaddrV); (· rfl); (· rfl); (· (first | omega | exact ⟨rfl, by omega⟩ | skip))) | ((with_reducible apply s_iaddrO); (· rfl); (· rfl); (· (first | omega | exact ⟨rfl, by omega⟩ | skip)); (· (exact hpX))) | ((with_reducible apply s_iaddrSO); (· rfl); (· assumption); (· rfl); (· (first | omega | exact ⟨rfl, by omega⟩ | skip)); (· (first | (simp (disch := omega) only [w64, wu8, wu16, wu32, wu64, tm_nn, td_nn, fd_nn, Int.reduceAdd, Int.reduceSub, Int.reduceMul, Int.reduceDiv, Int.reduceMod, Int.reduceNeg, Int.reduceToNat, Int.toNat_natCast, Int.toNat_zero, Int.zero_add, Int.add_zero, Int.one_mul, Int.reducePow, Nat.mul_one, Nat.zero_add, Nat.add_zero, Nat.zero_mul, Nat.reduceAdd, Nat.reduceMul, Nat.reduceSub, Nat.min_eq_left, IntKind.bits, Nat.sub_zero, hrow]; try rfl; done) | rfl)); intro ks hks))) | ((with_reducible refine k_load ?_); (first | ((with_reducible apply s_loadV); (· rfl)) | ((with_reducible apply s_loadP); (· rfl); (· (exact hpX))))) | ((with_reducible refine k_add ?_); ((with_reducible apply s_add); (· rfl); (· rfl))) | ((with_reducible refine k_br ?_); (first | (with_reducible first | refine Br_dec ?_ | refine Br_not ?_ | refine Br_eqF ?_ | refine Br_and ?_ | refine Br_or ?_ | refine Br_neg ?_ | refine Br_band ?_ | refine Br_bor ?_ | refine Br_beq ?_) | (refine Br_t (by first | with_reducible rfl | omega | assumption | rfl) ?_) | (refine Br_f (by first | omega | assumption | decide) ?_) | (with_reducible apply Br_sb <;> intro hbr <;> (first | subst hbr | simp only [hbr] | skip)) | (with_reducible apply Br_s <;> intro hbr))) | (with_reducible refine WN_succ ?_) | ((first | (with_reducible apply q_eqI) | (with_reducible apply q_eqN)); (first | (simp (disch := omega) only [w64, wu8, wu16, wu32, wu64, tm_nn, td_nn, fd_nn, Int.reduceAdd, Int.reduceSub, Int.reduceMul, Int.reduceDiv, Int.reduceMod, Int.reduceNeg, Int.reduceToNat, Int.toNat_natCast, Int.toNat_zero, Int.zero_add, Int.add_zero, Int.one_mul, Int.reducePow, Nat.mul_one, Nat.zero_add, Nat.add_zero, Nat.zero_mul, Nat.reduceAdd, Nat.reduceMul, Nat.reduceSub, Nat.min_eq_left, IntKind.bits, Nat.sub_zero, hrow]; try rfl; done) | rfl)) | ((first | (with_reducible apply q_eqL) | (with_reducible apply q_eqO)); (first | (simp (disch := omega) only [upd_self, upd_ne, upd_upd, rep, splice, List.take_succ_cons, List.take_zero, List.drop_succ_cons, List.drop_zero, List.cons_append, List.nil_append, List.append_nil, List.length_cons, List.length_nil, List.reduceReplicate, List.flatten_cons, List.flatten_nil, Nat.reduceAdd, Nat.reduceMul, Nat.reduceSub, Nat.zero_add, Nat.add_zero, List.getElem?_cons_zero, List.getElem?_cons_succ, hrow]; try rfl; done) | rfl)))
    all_goals first | (exfalso; omega) | skip
    all_goals exact ⟨_, rfl⟩
  · rintro e' h' ⟨h1, he⟩
    cases he
    rw [hall]
    repeat' (first | (with_reducible first | refine W_seq ?_ | refine then_n ?_ | refine W_block ?_ | refine blk_n ?_ | refine blk_r ?_ | refine blk_e ?_ | refine W_skip ?_ | refine W_ret ?_ | refine then_r ?_ | refine W_exit ?_ | refine then_e ?_) | (refine blk_j (by decide) ?_) | ((with_reducible refine s_reg ?_); intro K hK) | ((with_reducible refine k_nil ?_); (with_reducible apply s_nil hK); (· exact nmX); clear hK; clear K) | ((with_reducible refine k_cond ?_); (first | ((with_reducible apply s_condT); (· rfl); (· exact nmX)) | ((with_reducible apply s_condF); (· rfl); (· exact nmX)) | ((with_reducible apply s_condS); (· rfl); (· exact nmX); (· exact nmX)))) | ((with_reducible refine k_guard ?_); (first | (refine s_gt rfl ?_) | (refine s_gf1 rfl ?_) | (refine s_gfn rfl ?_) | (refine s_gx1 rfl ?_) | (refine s_gxn rfl ?_) | (refine s_gs rfl ?_))) | ((with_reducible refine k_mv ?_); (refine s_mv rfl ?_)) | ((with_reducible refine k_len ?_); (first | (refine s_len rfl rfl ?_) | ((with_reducible apply s_len); (· rfl); (· exact SlOwn.len (by assumption))))) | ((with_reducible refine k_lss ?_); (refine s_lss rfl rfl ?_)) | ((with_reducible refine k_callF ?_); (first | ((with_reducible apply s_call1); (· rfl)) | ((with_reducible apply s_calln); (· rfl)))) | ((with_reducible refine k_con ?_); (first | ((with_reducible apply con_of_pcon (cG)); (· (exact agX)); intro kG hkG; (try simp only [upd_none] at hkG); simp only [thaw, thawC, List.map, thawH, owOf, owL]))) | ((with_reducible refine k_br ?_); (first | (with_reducible first | refine Br_dec ?_ | refine Br_not ?_ | refine Br_eqF ?_ | refine Br_and ?_ | refine Br_or ?_ | refine Br_neg ?_ | refine Br_band ?_ | refine Br_bor ?_ | refine Br_beq ?_) | (refine Br_t (by first | with_reducible rfl | omega | assumption | rfl) ?_) | (refine Br_f (by first | omega | assumption | decide) ?_) | (with_reducible apply Br_sb <;> intro hbr <;> (first | subst hbr | simp only [hbr] | skip)) | (with_reducible apply Br_s <;> intro hbr))) | (with_reducible refine WN_succ ?_) | ((first | (with_reducible apply q_eqI) | (with_reducible apply q_eqN)); (first | exact nuI | exact nuN)) | ((first | (with_reducible apply q_eqL) | (with_reducible apply q_eqO)); (first | exact liL | exact liO)))
    refine W_for 4 (fun i st => ∃ d h', st = ⟨[(6, d), (25, rowsD zs), (26, .int .i64 4), (27, .int .i64 i)], h'⟩ ∧ SlOwn h' d 1 (intsD (zs.take i).flatten) (zs.take i).flatten.length) ⟨_, _, rfl, ?_⟩ ?_ ?_
    · exact SlOwn.sl upd_self rfl
    · rintro i e' h' hi ⟨d, h1, he, ho⟩
      cases he
      have hi2 : i < zs.length := by omega
      have hrow : (zs.map rowD)[i]? = some (.vs 1 (intsD zs[i]) zs[i].length) := by rw [List.getElem?_map, List.getElem?_eq_getElem hi2]; rfl
      have h5 := hpre i
      have h6 := hpre (i + 1)
      rw [hsuc i hi2, List.length_append] at h6 ⊢
      have hmap : intsD ((zs.take i).flatten ++ zs[i]) = intsD (zs.take i).flatten ++ intsD zs[i] := List.map_append
      rw [hmap]
      have hsr : srcD h' 1 zs[i].length (.vs 1 (intsD zs[i]) zs[i].length) = some (intsD zs[i]) := srcD_vs (by simp)
      have hln : (intsD zs[i]).length = zs[i].length * 1 := by simp
      generalize (zs.take i).flatten = a at *
      generalize zs[i] = z at *
      repeat' (first | (with_reducible first | refine W_seq ?_ | refine then_n ?_ | refine W_block ?_ | refine blk_n ?_ | refine blk_r ?_ | refine blk_e ?_ | refine W_skip ?_ | refine W_ret ?_ | refine then_r ?_ | refine W_exit ?_ | refine then_e ?_) | (refine blk_j (by decide) ?_) | ((with_reducible refine s_reg ?_); intro K hK) | ((with_reducible refine k_nil ?_); (with_reducible apply s_nil hK); (· exact nmX); clear hK; clear K) | ((with_reducible refine k_cond ?_); (first | ((with_reducible apply s_condT); (· rfl); (· exact nmX)) | ((with_reducible apply s_condF); (· rfl); (· exact nmX)) | ((with_reducible apply s_condS); (· rfl); (· exact nmX); (· exact nmX)))) | ((with_reducible refine k_guard ?_); (first | (refine s_gt rfl ?_) | (refine s_gf1 rfl ?_) | (refine s_gfn rfl ?_) | (refine s_gx1 rfl ?_) | (refine s_gxn rfl ?_) | (refine s_gs rfl ?_))) | ((with_reducible refine k_mv ?_); (refine s_mv rfl ?_)) | ((with_reducible refine k_lss ?_); (refine s_lss rfl rfl ?_)) | ((with_reducible refine k_iaddr ?_); (first | ((with_reducible apply s_iaddrV); (· rfl); (· rfl); (· (first | omega | exact ⟨rfl, by omega⟩ | skip))) | ((with_reducible apply s_iaddrO); (· rfl); (· rfl); (· (first | omega | exact ⟨rfl, by omega⟩ | skip)); (· (exact hpX))) | ((with_reducible apply s_iaddrSO); (· rfl); (· assumption); (· rfl); (· (first | omega | exact ⟨rfl, by omega⟩ | skip)); (· (first | (simp (disch := omega) only [w64, wu8, wu16, wu32, wu64, tm_nn, td_nn, fd_nn, Int.reduceAdd, Int.reduceSub, Int.reduceMul, Int.reduceDiv, Int.reduceMod, Int.reduceNeg, Int.reduceToNat, Int.toNat_natCast, Int.toNat_zero, Int.zero_add, Int.add_zero, Int.one_mul, Int.reducePow, Nat.mul_one, Nat.zero_add, Nat.add_zero, Nat.zero_mul, Nat.reduceAdd, Nat.reduceMul, Nat.reduceSub, Nat.min_eq_left, IntKind.bits, Nat.sub_zero, hrow]; try rfl; done) | rfl)); intro ks hks))) | ((with_reducible refine k_load ?_); (first | ((with_reducible apply s_loadV); (· rfl)) | ((with_reducible apply s_loadP); (· rfl); (· (exact hpX))))) | ((with_reducible refine k_add ?_); ((with_reducible apply s_add); (· rfl); (· rfl))) | ((with_reducible refine k_append (dst := some 33) ?_); ((with_reducible apply s_app); (· rfl); (· rfl); (· first | assumption | exact SlOwn.nil | exact SlOwn.emp | exact SlOwn.sl upd_self rfl | ((repeat' (first | assumption | (with_reducible apply SlOwn.upd) | (simp only [upd_none]; assumption))); done) | ((apply SlOwn.sl); (· (exact hpX)); (· first | rfl | assumption))); (· rfl); (· first | exact srcD_sl upd_self rfl | (exact srcD_vs (by first | assumption | simp)) | ((apply srcD_sl); (· (exact hpX)); (· rfl))); (· exact ⟨by first | rfl | assumption | simp, by decide⟩); (· first | (rw [room_n]; omega) | skip); intro da33 ha33 hso33 hoth33)) | ((with_reducible refine k_br ?_); (first | (with_reducible first | refine Br_dec ?_ | refine Br_not ?_ | refine Br_eqF ?_ | refine Br_and ?_ | refine Br_or ?_ | refine Br_neg ?_ | refine Br_band ?_ | refine Br_bor ?_ | refine Br_beq ?_) | (refine Br_t (by first | with_reducible rfl | omega | assumption | rfl) ?_) | (refine Br_f (by first | omega | assumption | decide) ?_) | (with_reducible apply Br_sb <;> intro hbr <;> (first | subst hbr | simp only [hbr] | skip)) | (with_reducible apply Br_s <;> intro hbr))) | (with_reducible refine WN_succ ?_) | ((first | (with_reducible apply q_eqI) | (with_reducible apply q_eqN)); (first | (simp (disch := omega) only [w64, wu8, wu16, wu32, wu64, tm_nn, td_nn, fd_nn, Int.reduceAdd, Int.reduceSub, Int.reduceMul, Int.reduceDiv, Int.reduceMod, Int.reduceNeg, Int.reduceToNat, Int.toNat_natCast, Int.toNat_zero, Int.zero_add, Int.add_zero, Int.one_mul, Int.reducePow, Nat.mul_one, Nat.zero_add, Nat.add_zero, Nat.zero_mul, Nat.reduceAdd, Nat.reduceMul, Nat.reduceSub, Nat.min_eq_left, IntKind.bits, Nat.sub_zero, hrow]; try rfl; done) | rfl)) | ((first | (with_reducible apply q_eqL) | (with_reducible apply q_eqO)); (first | (simp (disch := omega) only [upd_self, upd_ne, upd_upd, rep, splice, List.take_succ_cons, List.take_zero, List.drop_succ_cons, List.drop_zero, List.cons_append, List.nil_append, List.append_nil, List.length_cons, List.length_nil, List.reduceReplicate, List.flatten_cons, List.flatten_nil, Nat.reduceAdd, Nat.reduceMul, Nat.reduceSub, Nat.zero_add, Nat.add_zero, List.getElem?_cons_zero, List.getElem?_cons_succ, hrow]; try rfl; done) | rfl)))
      all_goals first | (exfalso; omega) | skip
      all_goals exact ⟨_, _, rfl, hso33⟩
    · rintro e' h' ⟨d, h1, he, ho⟩
      cases he
      rw [hall] at ho
      repeat' (first | (with_reducible first | refine W_seq ?_ | refine then_n ?_ | refine W_block ?_ | refine blk_n ?_ | refine blk_r ?_ | refine blk_e ?_ | refine W_skip ?_ | refine W_ret ?_ | refine then_r ?_ | refine W_exit ?_ | refine then_e ?_) | (refine blk_j (by decide) ?_) | ((with_reducible refine s_reg ?_); intro K hK) | ((with_reducible refine k_nil ?_); (with_reducible apply s_nil hK); (· exact nmX); clear hK; clear K) | ((with_reducible refine k_cond ?_); (first | ((with_reducible apply s_condT); (· rfl); (· exact nmX)) | ((with_reducible apply s_condF); (· rfl); (· exact nmX)) | ((with_reducible apply s_condS); (· rfl); (· exact nmX); (· exact nmX)))) | ((with_reducible refine k_guard ?_); (first | (refine s_gt rfl ?_) | (refine s_gf1 rfl ?_) | (refine s_gfn rfl ?_) | (refine s_gx1 rfl ?_) | (refine s_gxn rfl ?_) | (refine s_gs rfl ?_))) | ((with_reducible refine k_mv ?_); (refine s_mv rfl ?_)) | ((with_reducible refine k_lss ?_); (refine s_lss rfl rfl ?_)) | ((with_reducible refine k_br ?_); (first | (with_reducible first | refine Br_dec ?_ | refine Br_not ?_ | refine Br_eqF ?_ | refine Br_and ?_ | refine Br_or ?_ | refine Br_neg ?_ | refine Br_band ?_ | refine Br_bor ?_ | refine Br_beq ?_) | (refine Br_t (by first | with_reducible rfl | omega | assumption | rfl) ?_) | (refine Br_f (by first | omega | assumption | decide) ?_) | (with_reducible apply Br_sb <;> intro hbr <;> (first | subst hbr | simp only [hbr] | skip)) | (with_reducible apply Br_s <;> intro hbr))) | (with_reducible refine WN_succ ?_) | ((first | (with_reducible apply q_eqI) | (with_reducible apply q_eqN)); (first | exact nuI | exact nuN)) | ((first | (with_reducible apply q_eqL) | (with_reducible apply q_eqO)); (first | exact liL | exact liO)))
      exact Fin_so trivial rfl ho scal_i
theorem order_v {zs : List (List Int)} (hG : GensI zs) : PCon Try.prog 8 [rowsD zs] (.tup [.ow 1 (intsD zs.flatten) zs.flatten.length, .int .i64 0]) := by
  have cC := check_v hG
  have cK := concat_v hG.len hG.small
  refine A8p (by simp [A8]) ?_
  simp only [A8, argEnv]
  have hs : (intsD zs.flatten).all scal = true := scal_i
  have hl : (intsD zs.flatten).length = zs.flatten.length * 1 := by rw [List.length_map, Nat.mul_one]
  repeat' (first | (with_reducible first | refine W_seq ?_ | refine then_n ?_ | refine W_skip ?_ | refine W_ret ?_ | refine then_r ?_) | ((with_reducible refine s_reg ?_); intro K hK) | ((with_reducible refine k_nil ?_); (with_reducible apply s_nil hK); (· exact nmX); clear hK; clear K) | ((with_reducible refine k_cond ?_); (first | ((with_reducible apply s_condT); (· rfl); (· exact nmX)) | ((with_reducible apply s_condF); (· rfl); (· exact nmX)) | ((with_reducible apply s_condS); (· rfl); (· exact nmX); (· exact nmX)))) | ((with_reducible refine k_guard ?_); (first | (refine s_gt rfl ?_) | (refine s_gf1 rfl ?_) | (refine s_gfn rfl ?_) | (refine s_gx1 rfl ?_) | (refine s_gxn rfl ?_) | (refine s_gs rfl ?_))) | ((with_reducible refine k_mv ?_); (refine s_mv rfl ?_)) | ((with_reducible refine k_neq ?_); (first | (refine s_neq rfl rfl ?_) | (refine s_strNe rfl rfl ?_))) | ((with_reducible refine k_callF ?_); (first | ((with_reducible apply s_call1); (· rfl)) | ((with_reducible apply s_calln); (· rfl)))) | ((with_reducible refine k_con ?_); (first | ((with_reducible apply con_val (cC)); (· (exact agX)); (· rfl); (· exact fun _ => rfl)) | ((with_reducible apply con_of_pcon (cK)); (· (exact agX)); intro kC hkC; (try simp only [upd_none] at hkC); simp only [thaw, thawC, List.map, thawH, owOf, owL]))) | ((with_reducible refine k_br ?_); (first | (with_reducible first | refine Br_dec ?_ | refine Br_not ?_ | refine Br_eqF ?_ | refine Br_and ?_ | refine Br_or ?_ | refine Br_neg ?_ | refine Br_band ?_ | refine Br_bor ?_ | refine Br_beq ?_) | (refine Br_t (by first | with_reducible rfl | omega | assumption | rfl) ?_) | (refine Br_f (by first | omega | assumption | decide) ?_) | (with_reducible apply Br_sb <;> intro hbr <;> (first | subst hbr | simp only [hbr] | skip)) | (with_reducible apply Br_s <;> intro hbr))) | (with_reducible refine WN_succ ?_) | ((first | (with_reducible apply q_eqI) | (with_reducible apply q_eqN)); (first | exact nuI | exact nuN)) | ((first | (with_reducible apply q_eqL) | (with_reducible apply q_eqO)); (first | exact liL | exact liO)))
  exact Fin_sot trivial rfl (SlOwn.sl upd_self hl) hs rfl
end Go.Proofs.Ytolnhkpckbgmgaa
end
section
/- Reclaim order: the plain law of the lists. -/
set_option linter.unusedSimpArgs false
set_option linter.unusedVariables false
namespace Go.Proofs.Ytolnhkpckbgmgaa
open Go.AM
/-! ### Adding -/
theorem addF_cut {zs : List (List Int)} (hz : zs.length = 4) {j : Nat} (hj : j < 4) (f : Int) : ∃ a b, zs.flatten = a ++ b ∧ (addF zs j f).flatten = a ++ f :: b := by
  match zs, hz with
  | [a, b, c, d], _ =>
    obtain rfl | rfl | rfl | rfl : j = 0 ∨ j = 1 ∨ j = 2 ∨ j = 3 := by omega
    · exact ⟨a, b ++ c ++ d, by simp, by simp [addF]⟩
    · exact ⟨a ++ b, c ++ d, by simp, by simp [addF]⟩
    · exact ⟨a ++ b ++ c, d, by simp, by simp [addF]⟩
    · exact ⟨a ++ b ++ c ++ d, [], by simp, by simp [addF]⟩
theorem addF_perm {zs : List (List Int)} (hz : zs.length = 4) {j : Nat} (hj : j < 4) (f : Int) : (addF zs j f).flatten.Perm (f :: zs.flatten) := by
  obtain ⟨a, b, e1, e2⟩ := addF_cut hz hj f
  rw [e1, e2]; exact List.perm_middle
def addAll (fs : List Int) : Nat → List (List Int)
  | 0 => [[], [], [], []]
  | i + 1 => if (fs[i]?.getD 0) ∈ (addAll fs i).flatten then addAll fs i else addF (addAll fs i) (i % 4) (fs[i]?.getD 0)
theorem addAll_ok {fs : List Int} (hf : ∀ x ∈ fs, okFr x) (hl : fs.length ≤ 40) : ∀ i, i ≤ fs.length → GensI (addAll fs i) ∧ (addAll fs i).flatten.length ≤ i
  | 0, _ => ⟨⟨rfl, by simp [addAll], by simp [addAll], by simp [addAll]⟩, by simp [addAll]⟩
  | i + 1, h => by
    obtain ⟨hG, hn⟩ := addAll_ok hf hl i (by omega)
    have hfi : okFr (fs[i]?.getD 0) := by
      rw [List.getElem?_eq_getElem (show i < fs.length by omega)]
      exact hf _ (List.getElem_mem _)
    rw [addAll]
    split
    · exact ⟨hG, by omega⟩
    · rename_i hm
      have hp := addF_perm hG.len (Nat.mod_lt i (show 4 > 0 by omega)) (fs[i]?.getD 0)
      have hpl := hp.length_eq
      simp only [List.length_cons] at hpl
      exact ⟨⟨by simpa [addF] using hG.len, addF_fr hG.fr hfi, hp.nodup_iff.2 (List.nodup_cons.2 ⟨hm, hG.nd⟩), by omega⟩, by omega⟩
/-! ### Cells of a set -/
def thC (S : List Int) : List D := (List.range 256).map fun (f : Nat) => D.bool (decide ((f : Int) ∈ S))
theorem thC_len (S : List Int) : (thC S).length = 256 := by simp [thC]
theorem thC_at (S : List Int) {k : Nat} (hk : k < 256) : (thC S)[k]? = some (.bool (decide ((k : Int) ∈ S))) := by
  unfold thC
  rw [List.getElem?_map, List.getElem?_range hk]; rfl
theorem thC_get (S : List Int) {x : Int} (hx : okFr x) : (thC S)[x.toNat]? = some (.bool (decide (x ∈ S))) := by
  obtain ⟨h0, h1⟩ := hx
  rw [thC_at S (by omega), Int.toNat_of_nonneg h0]
theorem thC_set {S S' : List Int} {x : Int} (hx : okFr x) (h : ∀ y, y ∈ S' ↔ y ∈ S ∨ y = x) : (thC S).take x.toNat ++ [D.bool true] ++ (thC S).drop (x.toNat + 1) = thC S' := by
  obtain ⟨h0, h1⟩ := hx
  have hl : x.toNat < (thC S).length := by rw [thC_len]; omega
  have es : (thC S).set x.toNat (D.bool true) = (thC S).take x.toNat ++ D.bool true :: (thC S).drop (x.toNat + 1) := by rw [List.set_eq_take_append_cons_drop, if_pos hl]
  rw [List.append_assoc, List.singleton_append, ← es]
  refine List.ext_getElem? fun k => ?_
  rw [List.getElem?_set]
  by_cases hk : k < 256
  · rw [thC_at S' hk]
    by_cases e : x.toNat = k
    · rw [if_pos e, if_pos (by rw [thC_len]; omega), decide_eq_true ((h _).2 (.inr (by omega)))]
    · rw [if_neg e, thC_at S hk]
      have hh : ((k : Int) ∈ S) ↔ ((k : Int) ∈ S') := by
        rw [h]
        constructor
        · exact .inl
        · rintro (h | h)
          · exact h
          · omega
      rw [decide_eq_decide.2 hh]
  · rw [if_neg (by omega), List.getElem?_eq_none (by rw [thC_len]; omega), List.getElem?_eq_none (by rw [thC_len]; omega)]
theorem thC_congr {S S' : List Int} (h : ∀ y, y ∈ S ↔ y ∈ S') : thC S = thC S' := by
  unfold thC
  exact List.map_congr_left fun f _ => by congr 1; rw [decide_eq_decide]; exact h _
/-! ### What is accessed -/
def usT (Z ac : List Int) : Nat → List Int
  | 0 => []
  | i + 1 => if (ac[i]?.getD 0) ∈ Z ∧ (ac[i]?.getD 0) ∉ usT Z ac i then usT Z ac i ++ [ac[i]?.getD 0] else usT Z ac i
theorem usT_ok (Z ac : List Int) : ∀ i, (usT Z ac i).Nodup ∧ (∀ x ∈ usT Z ac i, x ∈ Z) ∧ (usT Z ac i).length ≤ i
  | 0 => by simp [usT]
  | i + 1 => by
    obtain ⟨h1, h2, h3⟩ := usT_ok Z ac i
    rw [usT]
    split
    · rename_i h
      refine ⟨?_, ?_, by simp; omega⟩
      · rw [List.nodup_append]
        refine ⟨h1, by simp, fun a ha b hb => ?_⟩
        rw [List.mem_singleton.1 hb]
        rintro rfl
        exact h.2 ha
      · intro x hx
        rcases List.mem_append.1 hx with h' | h'
        · exact h2 x h'
        · rw [List.mem_singleton.1 h']; exact h.1
    · exact ⟨h1, h2, by omega⟩
/-! ### The order -/
theorem ord_eq {zs : List (List Int)} (hz : zs.length = 4) (us : List Int) : (ageI zs us).flatten = (zs.flatten.filter fun x => !us.contains x) ++ zs.flatten.filter fun x => us.contains x := by
  match zs, hz with
  | [a, b, c, d], _ => simp [ageI, cold]
theorem ord_perm {zs : List (List Int)} (hz : zs.length = 4) (us : List Int) : (ageI zs us).flatten.Perm zs.flatten := by
  rw [ord_eq hz]
  exact (List.perm_append_comm).trans (List.filter_append_perm _ _)
theorem ageI_gens {zs : List (List Int)} (hG : GensI zs) (us : List Int) : GensI (ageI zs us) := by
  have hp := ord_perm hG.len us
  exact ⟨rfl, ageI_fr hG us, hp.nodup_iff.2 hG.nd, by rw [hp.length_eq]; exact hG.small⟩
theorem warm_aux {Z us o : List Int} (e : o = (Z.filter fun x => !us.contains x) ++ Z.filter fun x => us.contains x) {i : Nat} (h : i + 1 < o.length) (hw : o[i] ∈ us) : o[i + 1] ∈ us := by
  subst e
  have hi : (Z.filter fun x => !us.contains x).length ≤ i := by
    rcases Nat.lt_or_ge i (Z.filter fun x => !us.contains x).length with h1 | h1
    · exfalso
      rw [List.getElem_append_left h1] at hw
      have := (List.mem_filter.1 (List.getElem_mem h1)).2
      simp only [Bool.not_eq_true', ← Bool.not_eq_true, List.contains_iff_mem] at this
      exact this hw
    · exact h1
  rw [List.getElem_append_right (by omega)]
  have := (List.mem_filter.1 (List.getElem_mem (l := Z.filter fun x => us.contains x) (n := i + 1 - (Z.filter fun x => !us.contains x).length) (by rw [List.length_append] at h; omega))).2
  exact List.contains_iff_mem.1 this
theorem ord_warm {zs : List (List Int)} (hz : zs.length = 4) (us : List Int) {i : Nat} (h : i + 1 < (ageI zs us).flatten.length) (hw : (ageI zs us).flatten[i] ∈ us) : (ageI zs us).flatten[i + 1] ∈ us :=
  warm_aux (ord_eq hz us) h hw
end Go.Proofs.Ytolnhkpckbgmgaa
end
section
/- min -/
/- Accounts: their cells, and the contracts of the simplest functions. -/
set_option linter.unusedSimpArgs false
set_option linter.unusedVariables false
namespace Go.Proofs.Ytolnhkpckbgmgaa
open Go.AM
set_option maxRecDepth 100000
set_option maxHeartbeats 4000000
structure Acct where
  parent : Int
  usage : Int
  min : Int
  low : Int
  max : Int
def Acct.cells (a : Acct) : List D := [.int .i64 a.parent, .int .i64 a.usage, .int .i64 a.min, .int .i64 a.low, .int .i64 a.max]
theorem Acct.cells_len (a : Acct) : a.cells.length = 5 := rfl
abbrev accs (l : List Acct) : D := .vs 5 (l.flatMap Acct.cells) l.length
theorem accs_len (l : List Acct) : (l.flatMap Acct.cells).length = l.length * 5 := fm_len Acct.cells_len l
theorem ac0 {l : List Acct} {i : Nat} (h : i < l.length) : (l.flatMap Acct.cells)[i * 5]? = some (.int .i64 l[i].parent) := fm_cell (j := 0) Acct.cells_len h (by omega)
theorem ac1 {l : List Acct} {i : Nat} (h : i < l.length) : (l.flatMap Acct.cells)[i * 5 + 1]? = some (.int .i64 l[i].usage) := fm_cell (j := 1) Acct.cells_len h (by omega)
theorem ac2 {l : List Acct} {i : Nat} (h : i < l.length) : (l.flatMap Acct.cells)[i * 5 + 2]? = some (.int .i64 l[i].min) := fm_cell (j := 2) Acct.cells_len h (by omega)
theorem ac3 {l : List Acct} {i : Nat} (h : i < l.length) : (l.flatMap Acct.cells)[i * 5 + 3]? = some (.int .i64 l[i].low) := fm_cell (j := 3) Acct.cells_len h (by omega)
theorem ac4 {l : List Acct} {i : Nat} (h : i < l.length) : (l.flatMap Acct.cells)[i * 5 + 4]? = some (.int .i64 l[i].max) := fm_cell (j := 4) Acct.cells_len h (by omega)
theorem acr {l : List Acct} {i : Nat} (h : i < l.length) : ((l.flatMap Acct.cells).drop (i * 5)).take 5 = [.int .i64 l[i].parent, .int .i64 l[i].usage, .int .i64 l[i].min, .int .i64 l[i].low, .int .i64 l[i].max] := fm_row Acct.cells_len h
def inR (n : Int) : Prop := 0 ≤ n ∧ n ≤ 1048576
instance (n : Int) : Decidable (inR n) := inferInstanceAs (Decidable (0 ≤ n ∧ n ≤ 1048576))
theorem in_c (n : Int) : PCon Try.prog 48 [.int .i64 n] (.bool (decide (inR n))) := by
  unfold inR
  refine A48p (by simp [A48]) ?_
  simp only [A48, argEnv]
  repeat' (first | (with_reducible first | refine W_seq ?_ | refine then_n ?_ | refine W_skip ?_ | refine W_ret ?_ | refine then_r ?_) | ((with_reducible refine s_reg ?_); intro K hK) | ((with_reducible refine k_nil ?_); (with_reducible apply s_nil hK); (· exact nmX); clear hK; clear K) | ((with_reducible refine k_guard ?_); (first | (refine s_gt rfl ?_) | (refine s_gf1 rfl ?_) | (refine s_gfn rfl ?_) | (refine s_gx1 rfl ?_) | (refine s_gxn rfl ?_) | (refine s_gs rfl ?_))) | ((with_reducible refine k_mv ?_); (refine s_mv rfl ?_)) | ((with_reducible refine k_pick ?_); (first | (refine s_pickT rfl rfl ?_) | (refine s_pickF rfl rfl ?_))) | ((with_reducible refine k_leq ?_); (refine s_leq rfl rfl ?_)) | ((with_reducible refine k_geq ?_); (refine s_geq rfl rfl ?_)) | ((with_reducible refine k_br ?_); (first | (with_reducible first | refine Br_dec ?_ | refine Br_not ?_ | refine Br_eqF ?_ | refine Br_and ?_ | refine Br_or ?_ | refine Br_neg ?_ | refine Br_band ?_ | refine Br_bor ?_ | refine Br_beq ?_) | (refine Br_t (by first | with_reducible rfl | omega | assumption | rfl) ?_) | (refine Br_f (by first | omega | assumption | decide) ?_) | (with_reducible apply Br_sb <;> intro hbr <;> (first | subst hbr | simp only [hbr] | skip)) | (with_reducible apply Br_s <;> intro hbr))))
  all_goals first | exact Fin_bt trivial rfl (by omega) | exact Fin_bf trivial rfl (by omega)
theorem rin_c (n : Int) : PCon Try.prog 51 [.int .i64 n] (.bool (decide (inR n))) := by
  unfold inR
  refine A51p (by simp [A51]) ?_
  simp only [A51, argEnv]
  repeat' (first | (with_reducible first | refine W_seq ?_ | refine then_n ?_ | refine W_skip ?_ | refine W_ret ?_ | refine then_r ?_) | ((with_reducible refine s_reg ?_); intro K hK) | ((with_reducible refine k_nil ?_); (with_reducible apply s_nil hK); (· exact nmX); clear hK; clear K) | ((with_reducible refine k_guard ?_); (first | (refine s_gt rfl ?_) | (refine s_gf1 rfl ?_) | (refine s_gfn rfl ?_) | (refine s_gx1 rfl ?_) | (refine s_gxn rfl ?_) | (refine s_gs rfl ?_))) | ((with_reducible refine k_mv ?_); (refine s_mv rfl ?_)) | ((with_reducible refine k_pick ?_); (first | (refine s_pickT rfl rfl ?_) | (refine s_pickF rfl rfl ?_))) | ((with_reducible refine k_leq ?_); (refine s_leq rfl rfl ?_)) | ((with_reducible refine k_geq ?_); (refine s_geq rfl rfl ?_)) | ((with_reducible refine k_br ?_); (first | (with_reducible first | refine Br_dec ?_ | refine Br_not ?_ | refine Br_eqF ?_ | refine Br_and ?_ | refine Br_or ?_ | refine Br_neg ?_ | refine Br_band ?_ | refine Br_bor ?_ | refine Br_beq ?_) | (refine Br_t (by first | with_reducible rfl | omega | assumption | rfl) ?_) | (refine Br_f (by first | omega | assumption | decide) ?_) | (with_reducible apply Br_sb <;> intro hbr <;> (first | subst hbr | simp only [hbr] | skip)) | (with_reducible apply Br_s <;> intro hbr))))
  all_goals first | exact Fin_bt trivial rfl (by omega) | exact Fin_bf trivial rfl (by omega)
def okP (i : Nat) (a : Acct) : Prop := (i = 0 ∧ a.parent = -1) ∨ (0 < i ∧ 0 ≤ a.parent ∧ a.parent < i)
instance (i : Nat) (a : Acct) : Decidable (okP i a) := inferInstanceAs (Decidable (_ ∨ _))
def treeTo (l : List Acct) (n : Nat) : Prop := ∀ i, i < n → ∀ h : i < l.length, okP i l[i]
def treeP (l : List Acct) : Prop := treeTo l l.length
theorem treeTo_succ {l : List Acct} {i : Nat} (hi : i < l.length) (h : treeTo l i) (hp : okP i l[i]) : treeTo l (i + 1) := by
  intro j hj hl
  rcases Nat.lt_succ_iff_lt_or_eq.1 hj with h1 | rfl
  · exact h j h1 hl
  · exact hp
theorem treeP_not {l : List Acct} {i : Nat} (hi : i < l.length) (hp : ¬ okP i l[i]) : ¬ treeP l := fun h => hp (h i hi hi)
open Classical in
theorem tree_c (l : List Acct) (hl : l.length ≤ 8) : PCon Try.prog 37 [accs l] (.bool (decide (treeP l))) := by
  refine A37p (by simp [A37]) ?_
  simp only [A37, argEnv]
  have hal := accs_len l
  repeat' (first | (with_reducible first | refine W_seq ?_ | refine then_n ?_ | refine W_block ?_ | refine blk_n ?_ | refine blk_r ?_ | refine blk_e ?_ | refine W_skip ?_ | refine W_ret ?_ | refine then_r ?_ | refine W_exit ?_ | refine then_e ?_) | ((with_reducible refine s_reg ?_); intro K hK) | ((with_reducible refine k_nil ?_); (with_reducible apply s_nil hK); (· exact nmX); clear hK; clear K) | ((with_reducible refine k_mv ?_); (refine s_mv rfl ?_)) | ((with_reducible refine k_len ?_); (first | (refine s_len rfl rfl ?_) | ((with_reducible apply s_len); (· rfl); (· exact SlOwn.len (by assumption))))))
  refine W_for l.length (fun i st => treeTo l i ∧ ∃ h', st = ⟨[(5, accs l), (6, .int .i64 l.length), (7, .int .i64 i)], h'⟩) ⟨fun i h => by omega, _, rfl⟩ ?_ ?_
  · rintro i e' h' hi ⟨ht, h1, he⟩
    cases he
    repeat' (first | (with_reducible first | refine W_seq ?_ | refine then_n ?_ | refine W_block ?_ | refine blk_n ?_ | refine blk_r ?_ | refine blk_e ?_ | refine W_skip ?_ | refine W_ret ?_ | refine then_r ?_ | refine W_exit ?_ | refine then_e ?_) | ((with_reducible refine s_reg ?_); intro K hK) | ((with_reducible refine k_nil ?_); (with_reducible apply s_nil hK); (· exact nmX); clear hK; clear K) | ((with_reducible refine k_cond ?_); (first | ((with_reducible apply s_condT); (· rfl); (· exact nmX)) | ((with_reducible apply s_condF); (· rfl); (· exact nmX)) | ((with_reducible apply s_condS); (· rfl); (· exact nmX); (· exact nmX)))) | ((with_reducible refine k_guard ?_); (first | (refine s_gt rfl ?_) | (refine s_gf1 rfl ?_) | (refine s_gfn rfl ?_) | (refine s_gx1 rfl ?_) | (refine s_gxn rfl ?_) | (refine s_gs rfl ?_))) | ((with_reducible refine k_mv ?_); (refine s_mv rfl ?_)) | ((with_reducible refine k_pick ?_); (first | (refine s_pickT rfl rfl ?_) | (refine s_pickF rfl rfl ?_))) | ((with_reducible refine k_eql ?_); (first | (refine s_eql rfl rfl ?_) | (refine s_strEq rfl rfl ?_))) | ((with_reducible refine k_neq ?_); (first | (refine s_neq rfl rfl ?_) | (refine s_strNe rfl rfl ?_))) | ((with_reducible refine k_lss ?_); (refine s_lss rfl rfl ?_)) | ((with_reducible refine k_gtr ?_); (refine s_gtr rfl rfl ?_)) | ((with_reducible refine k_geq ?_); (refine s_geq rfl rfl ?_)) | ((with_reducible refine k_iaddr ?_); (first | ((with_reducible apply s_iaddrV); (· rfl); (· rfl); (· (first | omega | exact ⟨rfl, by omega⟩ | skip))) | ((with_reducible apply s_iaddrO); (· rfl); (· rfl); (· (first | omega | exact ⟨rfl, by omega⟩ | skip)); (· (exact hpX))) | ((with_reducible apply s_iaddrSO); (· rfl); (· assumption); (· rfl); (· (first | omega | exact ⟨rfl, by omega⟩ | skip)); (· (first | (simp (disch := omega) only [w64, wu8, wu16, wu32, wu64, tm_nn, td_nn, fd_nn, Int.reduceAdd, Int.reduceSub, Int.reduceMul, Int.reduceDiv, Int.reduceMod, Int.reduceNeg, Int.reduceToNat, Int.toNat_natCast, Int.toNat_zero, Int.zero_add, Int.add_zero, Int.one_mul, Int.reducePow, Nat.mul_one, Nat.zero_add, Nat.add_zero, Nat.zero_mul, Nat.reduceAdd, Nat.reduceMul, Nat.reduceSub, Nat.min_eq_left, IntKind.bits, Nat.sub_zero, acr]; try rfl; done) | rfl)); intro ks hks))) | ((with_reducible refine k_load ?_); (first | ((with_reducible apply s_loadV); (· rfl)) | ((with_reducible apply s_loadP); (· rfl); (· (exact hpX))))) | ((with_reducible refine k_loadA ?_); (first | ((with_reducible apply s_loadAV); (· rfl); (· (first | exact Nat.le_of_ble_eq_true rfl | decide | omega | (simp; done) | (simp; omega) | skip))) | ((with_reducible apply s_loadAP); (· rfl); (· (exact hpX)); (· (first | exact Nat.le_of_ble_eq_true rfl | decide | omega | (simp; done) | (simp; omega) | skip))))) | ((with_reducible refine k_add ?_); ((with_reducible apply s_add); (· rfl); (· rfl))) | ((with_reducible refine k_store ?_); ((with_reducible apply s_store0); (· rfl); (· rfl); (· rfl); (· (exact hpX)); (· (exact ⟨rfl, by first | exact Nat.le_of_ble_eq_true rfl | omega | (simp [acr]; omega)⟩)); (· ((first | (simp (disch := omega) only [upd_self, upd_ne, upd_upd, rep, splice, List.take_succ_cons, List.take_zero, List.drop_succ_cons, List.drop_zero, List.cons_append, List.nil_append, List.append_nil, List.length_cons, List.length_nil, List.reduceReplicate, List.flatten_cons, List.flatten_nil, Nat.reduceAdd, Nat.reduceMul, Nat.reduceSub, Nat.zero_add, Nat.add_zero, List.getElem?_cons_zero, List.getElem?_cons_succ, acr]; try rfl; done) | rfl))); (· (first | exact upd_upd | rfl)))) | ((with_reducible refine k_faddr ?_); (first | ((with_reducible apply s_faddrV); (· rfl); (· rfl)) | ((with_reducible apply s_faddrP); (· rfl); (· rfl)))) | ((with_reducible refine k_alloc (dst := some 4) ?_); ((with_reducible apply s_alloc); intro k4 hk4; (try simp only [upd_none] at hk4))) | ((with_reducible refine k_br ?_); (first | (with_reducible first | refine Br_dec ?_ | refine Br_not ?_ | refine Br_eqF ?_ | refine Br_and ?_ | refine Br_or ?_ | refine Br_neg ?_ | refine Br_band ?_ | refine Br_bor ?_ | refine Br_beq ?_) | (refine Br_t (by first | with_reducible rfl | omega | assumption | rfl) ?_) | (refine Br_f (by first | omega | assumption | decide) ?_) | (with_reducible apply Br_sb <;> intro hbr <;> (first | subst hbr | simp only [hbr] | skip)) | (with_reducible apply Br_s <;> intro hbr))) | ((first | (with_reducible apply q_eqI) | (with_reducible apply q_eqN)); (first | (simp (disch := omega) only [w64, wu8, wu16, wu32, wu64, tm_nn, td_nn, fd_nn, Int.reduceAdd, Int.reduceSub, Int.reduceMul, Int.reduceDiv, Int.reduceMod, Int.reduceNeg, Int.reduceToNat, Int.toNat_natCast, Int.toNat_zero, Int.zero_add, Int.add_zero, Int.one_mul, Int.reducePow, Nat.mul_one, Nat.zero_add, Nat.add_zero, Nat.zero_mul, Nat.reduceAdd, Nat.reduceMul, Nat.reduceSub, Nat.min_eq_left, IntKind.bits, Nat.sub_zero, acr]; try rfl; done) | rfl)) | ((first | (with_reducible apply q_eqL) | (with_reducible apply q_eqO)); (first | (simp (disch := omega) only [upd_self, upd_ne, upd_upd, rep, splice, List.take_succ_cons, List.take_zero, List.drop_succ_cons, List.drop_zero, List.cons_append, List.nil_append, List.append_nil, List.length_cons, List.length_nil, List.reduceReplicate, List.flatten_cons, List.flatten_nil, Nat.reduceAdd, Nat.reduceMul, Nat.reduceSub, Nat.zero_add, Nat.add_zero, List.getElem?_cons_zero, List.getElem?_cons_succ, acr]; try rfl; done) | rfl)))
    all_goals first | exact ⟨treeTo_succ hi ht (by unfold okP; omega), _, rfl⟩ | exact Fin_bf trivial rfl (treeP_not hi (by unfold okP; omega))
  · rintro e' h' ⟨ht, h1, he⟩
    cases he
    repeat' (first | (with_reducible first | refine W_seq ?_ | refine then_n ?_ | refine W_block ?_ | refine blk_n ?_ | refine blk_r ?_ | refine blk_e ?_ | refine W_skip ?_ | refine W_ret ?_ | refine then_r ?_ | refine W_exit ?_ | refine then_e ?_) | ((with_reducible refine s_reg ?_); intro K hK) | ((with_reducible refine k_nil ?_); (with_reducible apply s_nil hK); (· exact nmX); clear hK; clear K) | ((with_reducible refine k_cond ?_); (first | ((with_reducible apply s_condT); (· rfl); (· exact nmX)) | ((with_reducible apply s_condF); (· rfl); (· exact nmX)) | ((with_reducible apply s_condS); (· rfl); (· exact nmX); (· exact nmX)))) | ((with_reducible refine k_mv ?_); (refine s_mv rfl ?_)) | ((with_reducible refine k_lss ?_); (refine s_lss rfl rfl ?_)) | ((with_reducible refine k_br ?_); (first | (with_reducible first | refine Br_dec ?_ | refine Br_not ?_ | refine Br_eqF ?_ | refine Br_and ?_ | refine Br_or ?_ | refine Br_neg ?_ | refine Br_band ?_ | refine Br_bor ?_ | refine Br_beq ?_) | (refine Br_t (by first | with_reducible rfl | omega | assumption | rfl) ?_) | (refine Br_f (by first | omega | assumption | decide) ?_) | (with_reducible apply Br_sb <;> intro hbr <;> (first | subst hbr | simp only [hbr] | skip)) | (with_reducible apply Br_s <;> intro hbr))))
    exact Fin_bt trivial rfl ht
def okA (a : Acct) : Prop := inR a.usage ∧ inR a.min ∧ inR a.low ∧ inR a.max
instance (a : Acct) : Decidable (okA a) := inferInstanceAs (Decidable (_ ∧ _))
def amtTo (l : List Acct) (n : Nat) : Prop := ∀ i, i < n → ∀ h : i < l.length, okA l[i]
def zero0 (l : List Acct) : Prop := ∀ h : 0 < l.length, l[0].min = 0 ∧ l[0].low = 0
def amtP (l : List Acct) : Prop := amtTo l l.length ∧ zero0 l
theorem amtTo_succ {l : List Acct} {i : Nat} (hi : i < l.length) (h : amtTo l i) (hp : okA l[i]) : amtTo l (i + 1) := by
  intro j hj hl
  rcases Nat.lt_succ_iff_lt_or_eq.1 hj with h1 | rfl
  · exact h j h1 hl
  · exact hp
theorem amtTo_not {l : List Acct} {i : Nat} (hi : i < l.length) (hp : ¬ okA l[i]) : ¬ amtTo l l.length := fun h => hp (h i hi hi)
open Classical in
theorem amounts_c (l : List Acct) (h0 : 0 < l.length) (hl : l.length ≤ 8) : PCon Try.prog 38 [accs l] (.bool (decide (amtP l))) := by
  refine A38p (by simp [A38]) ?_
  simp only [A38, argEnv]
  have hal := accs_len l
  have z2 := ac2 h0
  have z3 := ac3 h0
  simp only [Nat.zero_mul] at z2 z3
  repeat' (first | (with_reducible first | refine W_seq ?_ | refine then_n ?_ | refine W_block ?_ | refine blk_n ?_ | refine blk_r ?_ | refine blk_e ?_ | refine W_skip ?_ | refine W_ret ?_ | refine then_r ?_ | refine W_exit ?_ | refine then_e ?_) | ((with_reducible refine s_reg ?_); intro K hK) | ((with_reducible refine k_nil ?_); (with_reducible apply s_nil hK); (· exact nmX); clear hK; clear K) | ((with_reducible refine k_mv ?_); (refine s_mv rfl ?_)) | ((with_reducible refine k_len ?_); (first | (refine s_len rfl rfl ?_) | ((with_reducible apply s_len); (· rfl); (· exact SlOwn.len (by assumption))))))
  refine W_for l.length (fun i st => amtTo l i ∧ ∃ h', st = ⟨[(0, accs l), (5, accs l), (6, .int .i64 l.length), (7, .int .i64 i)], h'⟩) ⟨fun i h => by omega, _, rfl⟩ ?_ ?_
  · rintro i e' h' hi ⟨ht, h1, he⟩
    cases he
    repeat' (first | (with_reducible first | refine W_seq ?_ | refine then_n ?_ | refine W_block ?_ | refine blk_n ?_ | refine blk_r ?_ | refine blk_e ?_ | refine W_skip ?_ | refine W_ret ?_ | refine then_r ?_ | refine W_exit ?_ | refine then_e ?_) | ((with_reducible refine s_reg ?_); intro K hK) | ((with_reducible refine k_nil ?_); (with_reducible apply s_nil hK); (· exact nmX); clear hK; clear K) | ((with_reducible refine k_cond ?_); (first | ((with_reducible apply s_condT); (· rfl); (· exact nmX)) | ((with_reducible apply s_condF); (· rfl); (· exact nmX)) | ((with_reducible apply s_condS); (· rfl); (· exact nmX); (· exact nmX)))) | ((with_reducible refine k_guard ?_); (first | (refine s_gt rfl ?_) | (refine s_gf1 rfl ?_) | (refine s_gfn rfl ?_) | (refine s_gx1 rfl ?_) | (refine s_gxn rfl ?_) | (refine s_gs rfl ?_))) | ((with_reducible refine k_mv ?_); (refine s_mv rfl ?_)) | ((with_reducible refine k_pick ?_); (first | (refine s_pickT rfl rfl ?_) | (refine s_pickF rfl rfl ?_))) | ((with_reducible refine k_not ?_); (refine s_not rfl (by first | exact Bool.not_true | exact Bool.not_false | rfl) ?_)) | ((with_reducible refine k_lss ?_); (refine s_lss rfl rfl ?_)) | ((with_reducible refine k_iaddr ?_); (first | ((with_reducible apply s_iaddrV); (· rfl); (· rfl); (· (first | omega | exact ⟨rfl, by omega⟩ | skip))) | ((with_reducible apply s_iaddrO); (· rfl); (· rfl); (· (first | omega | exact ⟨rfl, by omega⟩ | skip)); (· (exact hpX))) | ((with_reducible apply s_iaddrSO); (· rfl); (· assumption); (· rfl); (· (first | omega | exact ⟨rfl, by omega⟩ | skip)); (· (first | (simp (disch := omega) only [w64, wu8, wu16, wu32, wu64, tm_nn, td_nn, fd_nn, Int.reduceAdd, Int.reduceSub, Int.reduceMul, Int.reduceDiv, Int.reduceMod, Int.reduceNeg, Int.reduceToNat, Int.toNat_natCast, Int.toNat_zero, Int.zero_add, Int.add_zero, Int.one_mul, Int.reducePow, Nat.mul_one, Nat.zero_add, Nat.add_zero, Nat.zero_mul, Nat.reduceAdd, Nat.reduceMul, Nat.reduceSub, Nat.min_eq_left, IntKind.bits, Nat.sub_zero, acr]; try rfl; done) | rfl)); intro ks hks))) | ((with_reducible refine k_load ?_); (first | ((with_reducible apply s_loadV); (· rfl)) | ((with_reducible apply s_loadP); (· rfl); (· (exact hpX))))) | ((with_reducible refine k_loadA ?_); (first | ((with_reducible apply s_loadAV); (· rfl); (· (first | exact Nat.le_of_ble_eq_true rfl | decide | omega | (simp; done) | (simp; omega) | skip))) | ((with_reducible apply s_loadAP); (· rfl); (· (exact hpX)); (· (first | exact Nat.le_of_ble_eq_true rfl | decide | omega | (simp; done) | (simp; omega) | skip))))) | ((with_reducible refine k_add ?_); ((with_reducible apply s_add); (· rfl); (· rfl))) | ((with_reducible refine k_store ?_); ((with_reducible apply s_store0); (· rfl); (· rfl); (· rfl); (· (exact hpX)); (· (exact ⟨rfl, by first | exact Nat.le_of_ble_eq_true rfl | omega | (simp [acr]; omega)⟩)); (· ((first | (simp (disch := omega) only [upd_self, upd_ne, upd_upd, rep, splice, List.take_succ_cons, List.take_zero, List.drop_succ_cons, List.drop_zero, List.cons_append, List.nil_append, List.append_nil, List.length_cons, List.length_nil, List.reduceReplicate, List.flatten_cons, List.flatten_nil, Nat.reduceAdd, Nat.reduceMul, Nat.reduceSub, Nat.zero_add, Nat.add_zero, List.getElem?_cons_zero, List.getElem?_cons_succ, acr]; try rfl; done) | rfl))); (· (first | exact upd_upd | rfl)))) | ((with_reducible refine k_faddr ?_); (first | ((with_reducible apply s_faddrV); (· rfl); (· rfl)) | ((with_reducible apply s_faddrP); (· rfl); (· rfl)))) | ((with_reducible refine k_alloc (dst := some 4) ?_); ((with_reducible apply s_alloc); intro k4 hk4; (try simp only [upd_none] at hk4))) | ((with_reducible refine k_callF ?_); (first | ((with_reducible apply s_call1); (· rfl)) | ((with_reducible apply s_calln); (· rfl)))) | ((with_reducible refine k_con ?_); (first | ((with_reducible apply con_valB (in_c _)); (· (repeat (first | exact All2.nil | (apply All2.cons; (· first | ((apply Rd_sl0); (· exact hpX); (· first | rfl | exact scal_i | exact scal_b | assumption); (· first | rfl | assumption | (simp [acr]; done) | (simp [acr]; omega))) | exact rdX)))))))) | ((with_reducible refine k_br ?_); (first | (with_reducible first | refine Br_dec ?_ | refine Br_not ?_ | refine Br_eqF ?_ | refine Br_and ?_ | refine Br_or ?_ | refine Br_neg ?_ | refine Br_band ?_ | refine Br_bor ?_ | refine Br_beq ?_) | (refine Br_t (by first | with_reducible rfl | omega | assumption | rfl) ?_) | (refine Br_f (by first | omega | assumption | decide) ?_) | (with_reducible apply Br_sb <;> intro hbr <;> (first | subst hbr | simp only [hbr] | skip)) | (with_reducible apply Br_s <;> intro hbr))) | ((first | (with_reducible apply q_eqI) | (with_reducible apply q_eqN)); (first | (simp (disch := omega) only [w64, wu8, wu16, wu32, wu64, tm_nn, td_nn, fd_nn, Int.reduceAdd, Int.reduceSub, Int.reduceMul, Int.reduceDiv, Int.reduceMod, Int.reduceNeg, Int.reduceToNat, Int.toNat_natCast, Int.toNat_zero, Int.zero_add, Int.add_zero, Int.one_mul, Int.reducePow, Nat.mul_one, Nat.zero_add, Nat.add_zero, Nat.zero_mul, Nat.reduceAdd, Nat.reduceMul, Nat.reduceSub, Nat.min_eq_left, IntKind.bits, Nat.sub_zero, acr]; try rfl; done) | rfl)) | ((first | (with_reducible apply q_eqL) | (with_reducible apply q_eqO)); (first | (simp (disch := omega) only [upd_self, upd_ne, upd_upd, rep, splice, List.take_succ_cons, List.take_zero, List.drop_succ_cons, List.drop_zero, List.cons_append, List.nil_append, List.append_nil, List.length_cons, List.length_nil, List.reduceReplicate, List.flatten_cons, List.flatten_nil, Nat.reduceAdd, Nat.reduceMul, Nat.reduceSub, Nat.zero_add, Nat.add_zero, List.getElem?_cons_zero, List.getElem?_cons_succ, acr]; try rfl; done) | rfl)))
    all_goals first | exact ⟨amtTo_succ hi ht (by unfold okA; simp only [*, and_self]), _, rfl⟩ | exact Fin_bf trivial rfl (fun h => amtTo_not hi (by unfold okA; simp only [*, and_false, false_and, not_false_eq_true]) h.1)
  · rintro e' h' ⟨ht, h1, he⟩
    cases he
    repeat' (first | (with_reducible first | refine W_seq ?_ | refine then_n ?_ | refine W_block ?_ | refine blk_n ?_ | refine blk_r ?_ | refine blk_e ?_ | refine W_skip ?_ | refine W_ret ?_ | refine then_r ?_ | refine W_exit ?_ | refine then_e ?_) | ((with_reducible refine s_reg ?_); intro K hK) | ((with_reducible refine k_nil ?_); (with_reducible apply s_nil hK); (· exact nmX); clear hK; clear K) | ((with_reducible refine k_cond ?_); (first | ((with_reducible apply s_condT); (· rfl); (· exact nmX)) | ((with_reducible apply s_condF); (· rfl); (· exact nmX)) | ((with_reducible apply s_condS); (· rfl); (· exact nmX); (· exact nmX)))) | ((with_reducible refine k_guard ?_); (first | (refine s_gt rfl ?_) | (refine s_gf1 rfl ?_) | (refine s_gfn rfl ?_) | (refine s_gx1 rfl ?_) | (refine s_gxn rfl ?_) | (refine s_gs rfl ?_))) | ((with_reducible refine k_mv ?_); (refine s_mv rfl ?_)) | ((with_reducible refine k_pick ?_); (first | (refine s_pickT rfl rfl ?_) | (refine s_pickF rfl rfl ?_))) | ((with_reducible refine k_eql ?_); (first | (refine s_eql rfl rfl ?_) | (refine s_strEq rfl rfl ?_))) | ((with_reducible refine k_lss ?_); (refine s_lss rfl rfl ?_)) | ((with_reducible refine k_iaddr ?_); (first | ((with_reducible apply s_iaddrV); (· rfl); (· rfl); (· (first | omega | exact ⟨rfl, by omega⟩ | skip))) | ((with_reducible apply s_iaddrO); (· rfl); (· rfl); (· (first | omega | exact ⟨rfl, by omega⟩ | skip)); (· (exact hpX))) | ((with_reducible apply s_iaddrSO); (· rfl); (· assumption); (· rfl); (· (first | omega | exact ⟨rfl, by omega⟩ | skip)); (· (first | (simp (disch := omega) only [w64, wu8, wu16, wu32, wu64, tm_nn, td_nn, fd_nn, Int.reduceAdd, Int.reduceSub, Int.reduceMul, Int.reduceDiv, Int.reduceMod, Int.reduceNeg, Int.reduceToNat, Int.toNat_natCast, Int.toNat_zero, Int.zero_add, Int.add_zero, Int.one_mul, Int.reducePow, Nat.mul_one, Nat.zero_add, Nat.add_zero, Nat.zero_mul, Nat.reduceAdd, Nat.reduceMul, Nat.reduceSub, Nat.min_eq_left, IntKind.bits, Nat.sub_zero, z2, z3]; try rfl; done) | rfl)); intro ks hks))) | ((with_reducible refine k_load ?_); (first | ((with_reducible apply s_loadV); (· rfl)) | ((with_reducible apply s_loadP); (· rfl); (· (exact hpX))))) | ((with_reducible refine k_faddr ?_); (first | ((with_reducible apply s_faddrV); (· rfl); (· rfl)) | ((with_reducible apply s_faddrP); (· rfl); (· rfl)))) | ((with_reducible refine k_br ?_); (first | (with_reducible first | refine Br_dec ?_ | refine Br_not ?_ | refine Br_eqF ?_ | refine Br_and ?_ | refine Br_or ?_ | refine Br_neg ?_ | refine Br_band ?_ | refine Br_bor ?_ | refine Br_beq ?_) | (refine Br_t (by first | with_reducible rfl | omega | assumption | rfl) ?_) | (refine Br_f (by first | omega | assumption | decide) ?_) | (with_reducible apply Br_sb <;> intro hbr <;> (first | subst hbr | simp only [hbr] | skip)) | (with_reducible apply Br_s <;> intro hbr))) | ((first | (with_reducible apply q_eqI) | (with_reducible apply q_eqN)); (first | (simp (disch := omega) only [w64, wu8, wu16, wu32, wu64, tm_nn, td_nn, fd_nn, Int.reduceAdd, Int.reduceSub, Int.reduceMul, Int.reduceDiv, Int.reduceMod, Int.reduceNeg, Int.reduceToNat, Int.toNat_natCast, Int.toNat_zero, Int.zero_add, Int.add_zero, Int.one_mul, Int.reducePow, Nat.mul_one, Nat.zero_add, Nat.add_zero, Nat.zero_mul, Nat.reduceAdd, Nat.reduceMul, Nat.reduceSub, Nat.min_eq_left, IntKind.bits, Nat.sub_zero, z2, z3]; try rfl; done) | rfl)) | ((first | (with_reducible apply q_eqL) | (with_reducible apply q_eqO)); (first | (simp (disch := omega) only [upd_self, upd_ne, upd_upd, rep, splice, List.take_succ_cons, List.take_zero, List.drop_succ_cons, List.drop_zero, List.cons_append, List.nil_append, List.append_nil, List.length_cons, List.length_nil, List.reduceReplicate, List.flatten_cons, List.flatten_nil, Nat.reduceAdd, Nat.reduceMul, Nat.reduceSub, Nat.zero_add, Nat.add_zero, List.getElem?_cons_zero, List.getElem?_cons_succ, z2, z3]; try rfl; done) | rfl)))
    · exact Fin_bt trivial rfl ⟨ht, fun _ => by constructor <;> assumption⟩
    · exact Fin_bf trivial rfl (fun h => absurd (h.2 h0).2 (by assumption))
    · exact Fin_bf trivial rfl (fun h => absurd (h.2 h0).1 (by assumption))
end Go.Proofs.Ytolnhkpckbgmgaa
end
