import Derived.Test.YtgilodbgleogmaaProg
import Derived.Shelf.Sort.Plain
import Derived.Shelf.Slices.In.SortNone
import Derived.Test.YtgilodbgleogmaaMwB4
/- The small code of the functions (table). -/
namespace Go.Proofs.Ytgilodbgleogmaa
open Go Go.MW

def c3 : MC := .seq (.reg false [o 4 (.mv (.c (.bool false)))]) (.seq (.reg false [o 14 (.call 8 []), o 5 (.mv (.t 14))]) (.seq (.seq (.reg false [o 15 (.mv (.t 0)), o 16 (.call 9 [.t 15, .c (.int .i64 60)]), o 17 (.un .not (.t 16)), o 18 (.mv (.t 17)), go 19 18 false (.mv (.t 1)), go 20 18 false (.len 0 (.t 19)), go 21 18 false (.bin .gtr (.t 20) (.c (.int .i64 100))), o 22 (.pick (.t 18) (.c (.bool true)) (.t 21))]) (.cond (.t 22) (.seq (.reg false [o 23 (.mv (.t 5)), o 4 (.mv (.t 23))]) .ret) .skip)) (.seq (.reg false [o 24 (.call 10 []), o 6 (.mv (.t 24))]) (.seq (.reg false [o 7 (.mv (.c (.int .i64 0)))]) (.seq (.reg false [o 8 (.mv (.c (.bool false)))]) (.seq (.seq (.reg false [o 9 (.mv (.c (.int .i64 0)))]) (.block 0 (.loop (.seq (.seq (.reg false [o 25 (.mv (.t 9)), o 26 (.mv (.t 0)), o 27 (.len 1 (.t 26)), o 28 (.bin .lss (.t 25) (.t 27))]) (.cond (.t 28) .skip (.exit 0))) (.seq (.block 1 (.seq (.reg false [o 32 (.mv (.t 6)), o 33 (.mv (.t 0)), o 34 (.mv (.t 9)), o 35 (.ia 3 (.t 33) (.t 34)), o 36 (.ld (some 3) (.t 35)), o 37 (.call 11 [.t 32, .t 36]), o 31 (.mv (.t 37)), o 38 (.ext (.t 31) 0), o 39 (.ext (.t 31) 1), o 10 (.mv (.t 38)), o 11 (.mv (.t 39))]) (.seq (.seq (.reg false [o 40 (.mv (.t 0)), o 41 (.mv (.t 9)), o 42 (.ia 3 (.t 40) (.t 41)), o 43 (.fa 1 (.t 42)), o 44 (.ld none (.t 43)), o 45 (.mv (.t 1)), o 46 (.bin .eql (.t 44) (.t 45)), o 47 (.mv (.t 46)), go 48 47 true (.mv (.t 11)), go 49 47 true (.bin .eql (.t 48) (.c (.int .i64 0))), o 50 (.pick (.t 47) (.t 49) (.c (.bool false)))]) (.cond (.t 50) (.seq (.reg false [o 51 (.mv (.t 0)), o 52 (.mv (.t 9)), o 53 (.ia 3 (.t 51) (.t 52)), o 54 (.fa 2 (.t 53)), o 55 (.ld none (.t 54)), o 7 (.mv (.t 55))]) (.reg false [o 56 (.mv (.t 0)), o 57 (.mv (.t 9)), o 58 (.ia 3 (.t 56) (.t 57)), o 59 (.fa 0 (.t 58)), o 60 (.ld none (.t 59)), o 61 (.un .not (.t 60)), o 8 (.mv (.t 61))])) .skip)) (.seq (.seq (.reg false [o 62 (.mv (.t 11)), o 63 (.bin .eql (.t 62) (.c (.int .i64 0))), o 64 (.mv (.t 0)), o 65 (.mv (.t 9)), o 66 (.ia 3 (.t 64) (.t 65)), o 67 (.fa 0 (.t 66)), o 68 (.ld none (.t 67)), o 69 (.mv (.t 68)), go 70 69 true (.mv (.t 6)), go 71 69 true (.mv (.t 0)), go 72 69 true (.mv (.t 9)), go 73 69 true (.ia 3 (.t 71) (.t 72)), go 74 69 true (.fa 1 (.t 73)), go 75 69 true (.ld none (.t 74)), go 76 69 true (.call 12 [.t 70, .t 75]), o 77 (.pick (.t 69) (.t 76) (.c (.bool false))), o 78 (.mv (.t 77)), go 79 78 false (.mv (.t 0)), go 80 78 false (.mv (.t 9)), go 81 78 false (.ia 3 (.t 79) (.t 80)), go 82 78 false (.fa 0 (.t 81)), go 83 78 false (.ld none (.t 82)), go 84 78 false (.un .not (.t 83)), go 85 78 false (.mv (.t 84)), go 86 85 true (.mv (.t 0)), go 87 85 true (.mv (.t 9)), go 88 85 true (.ia 3 (.t 86) (.t 87)), go 89 85 true (.fa 1 (.t 88)), go 90 85 true (.ld none (.t 89)), go 91 85 true (.call 13 [.t 90]), go 92 78 false (.pick (.t 85) (.t 91) (.c (.bool false))), o 93 (.pick (.t 78) (.c (.bool true)) (.t 92)), o 94 (.eqB true (.t 63) (.t 93))]) (.cond (.t 94) (.seq (.reg false [o 4 (.mv (.c (.bool false)))]) .ret) .skip)) (.reg false [o 95 (.mv (.t 10)), o 6 (.mv (.t 95))]))))) (.reg false [o 29 (.mv (.t 9)), o 30 (.bin .add (.t 29) (.c (.int .i64 1))), o 9 (.mv (.t 30))])))))) (.seq (.reg false [o 97 (.mv (.t 6)), o 98 (.mv (.t 1)), o 99 (.call 14 [.t 97, .t 98]), o 96 (.mv (.t 99)), o 100 (.ext (.t 96) 0), o 101 (.ext (.t 96) 1), o 12 (.mv (.t 100)), o 13 (.mv (.t 101))]) (.seq (.reg false [o 102 (.mv (.t 5)), o 103 (.mv (.t 102)), go 104 103 true (.mv (.t 13)), go 105 103 true (.mv (.t 8)), go 106 103 true (.eqB false (.t 104) (.t 105)), o 107 (.pick (.t 103) (.t 106) (.c (.bool false))), o 108 (.mv (.t 107)), go 109 108 true (.mv (.t 8)), go 110 108 true (.un .not (.t 109)), go 111 108 true (.mv (.t 110)), go 112 111 false (.mv (.t 12)), go 113 111 false (.mv (.t 7)), go 114 111 false (.bin .eql (.t 112) (.t 113)), go 115 108 true (.pick (.t 111) (.c (.bool true)) (.t 114)), o 116 (.pick (.t 108) (.t 115) (.c (.bool false))), o 117 (.mv (.t 116)), go 118 117 true (.mv (.t 8)), go 119 117 true (.mv (.t 118)), go 120 119 false (.mv (.t 12)), go 121 119 false (.bin .eql (.t 120) (.c (.int .i64 0))), go 122 117 true (.pick (.t 119) (.c (.bool true)) (.t 121)), o 123 (.pick (.t 117) (.t 122) (.c (.bool false))), o 124 (.mv (.t 123)), go 125 124 true (.mv (.t 6)), go 126 124 true (.call 15 [.t 125]), o 127 (.pick (.t 124) (.t 126) (.c (.bool false))), o 4 (.mv (.t 127))]) .ret))))))))
theorem comp3 : Compiled Try.prog 3 2 c3 [.t 4] := .fn Try.func3 (by kernel_rfl) (by kernel_rfl)
def c4 : MC := .seq (.reg false [o 8 (.mv (.c (.bool false)))]) (.seq (.reg false [o 22 (.call 8 []), o 9 (.mv (.t 22))]) (.seq (.seq (.reg false [o 23 (.mv (.t 0)), o 24 (.call 9 [.t 23, .c (.int .i64 60)]), o 25 (.un .not (.t 24)), o 26 (.mv (.t 25)), go 27 26 false (.mv (.t 1)), go 28 26 false (.len 0 (.t 27)), go 29 26 false (.bin .gtr (.t 28) (.c (.int .i64 100))), o 30 (.pick (.t 26) (.c (.bool true)) (.t 29)), o 31 (.mv (.t 30)), go 32 31 false (.mv (.t 3)), go 33 31 false (.len 0 (.t 32)), go 34 31 false (.bin .gtr (.t 33) (.c (.int .i64 100))), o 35 (.pick (.t 31) (.c (.bool true)) (.t 34))]) (.cond (.t 35) (.seq (.reg false [o 36 (.mv (.t 9)), o 8 (.mv (.t 36))]) .ret) .skip)) (.seq (.reg false [o 37 (.call 10 []), o 10 (.mv (.t 37))]) (.seq (.seq (.reg false [o 11 (.mv (.c (.int .i64 0)))]) (.block 0 (.loop (.seq (.seq (.reg false [o 38 (.mv (.t 11)), o 39 (.mv (.t 0)), o 40 (.len 1 (.t 39)), o 41 (.bin .lss (.t 38) (.t 40))]) (.cond (.t 41) .skip (.exit 0))) (.seq (.block 1 (.seq (.reg false [o 45 (.mv (.t 10)), o 46 (.mv (.t 0)), o 47 (.mv (.t 11)), o 48 (.ia 3 (.t 46) (.t 47)), o 49 (.ld (some 3) (.t 48)), o 50 (.call 11 [.t 45, .t 49]), o 44 (.mv (.t 50)), o 51 (.ext (.t 44) 0), o 52 (.ext (.t 44) 1), o 12 (.mv (.t 51)), o 13 (.mv (.t 52))]) (.reg false [o 53 (.mv (.t 12)), o 10 (.mv (.t 53))]))) (.reg false [o 42 (.mv (.t 11)), o 43 (.bin .add (.t 42) (.c (.int .i64 1))), o 11 (.mv (.t 43))])))))) (.seq (.seq (.reg false [o 54 (.mv (.t 10)), o 55 (.mv (.t 1)), o 56 (.call 12 [.t 54, .t 55])]) (.cond (.t 56) (.seq (.reg false [o 57 (.mv (.t 9)), o 8 (.mv (.t 57))]) .ret) .skip)) (.seq (.reg false [o 59 (.mv (.t 10)), o 60 (.mv (.t 1)), o 61 (.mv (.t 2)), o 62 (.call 16 [.t 59, .t 60, .t 61]), o 58 (.mv (.t 62)), o 63 (.ext (.t 58) 0), o 64 (.ext (.t 58) 1), o 14 (.mv (.t 63)), o 15 (.mv (.t 64))]) (.seq (.seq (.reg false [o 65 (.mv (.t 15)), o 66 (.bin .neq (.t 65) (.c (.int .i64 0)))]) (.cond (.t 66) (.seq (.reg false [o 67 (.mv (.t 9)), o 68 (.mv (.t 67)), go 69 68 true (.mv (.t 14)), go 70 68 true (.mv (.t 10)), go 71 68 true (.call 17 [.t 69, .t 70]), o 72 (.pick (.t 68) (.t 71) (.c (.bool false))), o 8 (.mv (.t 72))]) .ret) .skip)) (.seq (.reg false [o 74 (.mv (.t 14)), o 75 (.mv (.t 1)), o 76 (.call 18 [.t 74, .t 75]), o 73 (.mv (.t 76)), o 77 (.ext (.t 73) 0), o 78 (.ext (.t 73) 1), o 16 (.mv (.t 77)), o 17 (.mv (.t 78))]) (.seq (.reg false [o 80 (.mv (.t 10)), o 81 (.mv (.t 3)), o 82 (.call 14 [.t 80, .t 81]), o 79 (.mv (.t 82)), o 83 (.ext (.t 79) 0), o 84 (.ext (.t 79) 1), o 18 (.mv (.t 83)), o 19 (.mv (.t 84))]) (.seq (.reg false [o 86 (.mv (.t 14)), o 87 (.mv (.t 3)), o 88 (.call 14 [.t 86, .t 87]), o 85 (.mv (.t 88)), o 89 (.ext (.t 85) 0), o 90 (.ext (.t 85) 1), o 20 (.mv (.t 89)), o 21 (.mv (.t 90))]) (.seq (.reg false [o 91 (.mv (.t 9)), o 92 (.mv (.t 91)), go 93 92 true (.mv (.t 17)), go 94 92 true (.bin .eql (.t 93) (.c (.int .i64 0))), o 95 (.pick (.t 92) (.t 94) (.c (.bool false))), o 96 (.mv (.t 95)), go 97 96 true (.mv (.t 16)), go 98 96 true (.mv (.t 10)), go 99 96 true (.call 17 [.t 97, .t 98]), o 100 (.pick (.t 96) (.t 99) (.c (.bool false))), o 101 (.mv (.t 100)), go 102 101 true (.mv (.t 3)), go 103 101 true (.mv (.t 1)), go 104 101 true (.bin .eql (.t 102) (.t 103)), go 105 101 true (.mv (.t 104)), go 106 105 false (.mv (.t 18)), go 107 105 false (.mv (.t 20)), go 108 105 false (.bin .eql (.t 106) (.t 107)), go 109 105 false (.mv (.t 108)), go 110 109 true (.mv (.t 19)), go 111 109 true (.mv (.t 21)), go 112 109 true (.eqB false (.t 110) (.t 111)), go 113 105 false (.pick (.t 109) (.t 112) (.c (.bool false))), go 114 101 true (.pick (.t 105) (.c (.bool true)) (.t 113)), o 115 (.pick (.t 101) (.t 114) (.c (.bool false))), o 8 (.mv (.t 115))]) .ret)))))))))))
theorem comp4 : Compiled Try.prog 4 4 c4 [.t 8] := .fn Try.func4 (by kernel_rfl) (by kernel_rfl)
def c5 : MC := .seq (.reg false [o 4 (.mv (.c (.bool false)))]) (.seq (.reg false [o 16 (.call 8 []), o 5 (.mv (.t 16))]) (.seq (.reg false [o 17 (.call 10 []), o 6 (.mv (.t 17))]) (.seq (.reg false [o 18 (.mv (.t 0)), o 19 (.bin .rem (.t 18) (.c (.int .u8 120))), o 20 (.cvi .i64 (.t 19)), o 7 (.mv (.t 20))]) (.seq (.seq (.reg false [o 8 (.mv (.c (.int .i64 0)))]) (.block 0 (.loop (.seq (.seq (.reg false [o 21 (.mv (.t 8)), o 22 (.mv (.t 7)), o 23 (.bin .lss (.t 21) (.t 22))]) (.cond (.t 23) .skip (.exit 0))) (.seq (.block 1 (.seq (.reg false [o 27 (.mv (.t 6)), o 28 (.mv (.t 8)), o 29 (.bin .quo (.t 28) (.c (.int .i64 10))), o 30 (.bin .add (.c (.int .i64 97)) (.t 29)), o 31 (.cvi .u8 (.t 30)), o 32 (.mv (.t 8)), o 33 (.bin .rem (.t 32) (.c (.int .i64 10))), o 34 (.bin .add (.c (.int .i64 48)) (.t 33)), o 35 (.cvi .u8 (.t 34)), o 36 (.bslice 1 (.int .u8 0) 2 [(0, .t 31), (1, .t 35)]), o 37 (.b2s (.t 36)), o 38 (.mv (.t 8)), o 39 (.call 16 [.t 27, .t 37, .t 38]), o 26 (.mv (.t 39)), o 40 (.ext (.t 26) 0), o 41 (.ext (.t 26) 1), o 9 (.mv (.t 40)), o 10 (.mv (.t 41))]) (.seq (.seq (.reg false [o 42 (.mv (.t 10)), o 43 (.bin .eql (.t 42) (.c (.int .i64 0))), o 44 (.mv (.t 8)), o 45 (.bin .lss (.t 44) (.c (.int .i64 96))), o 46 (.eqB true (.t 43) (.t 45)), o 47 (.mv (.t 46)), go 48 47 false (.mv (.t 8)), go 49 47 false (.bin .geq (.t 48) (.c (.int .i64 96))), go 50 47 false (.mv (.t 49)), go 51 50 true (.mv (.t 10)), go 52 50 true (.bin .neq (.t 51) (.c (.int .i64 110))), go 53 50 true (.mv (.t 52)), go 54 53 false (.mv (.t 9)), go 55 53 false (.mv (.t 6)), go 56 53 false (.call 17 [.t 54, .t 55]), go 57 53 false (.un .not (.t 56)), go 58 50 true (.pick (.t 53) (.c (.bool true)) (.t 57)), go 59 47 false (.pick (.t 50) (.t 58) (.c (.bool false))), o 60 (.pick (.t 47) (.c (.bool true)) (.t 59))]) (.cond (.t 60) (.seq (.reg false [o 4 (.mv (.c (.bool false)))]) .ret) .skip)) (.reg false [o 61 (.mv (.t 9)), o 6 (.mv (.t 61))])))) (.reg false [o 24 (.mv (.t 8)), o 25 (.bin .add (.t 24) (.c (.int .i64 1))), o 8 (.mv (.t 25))])))))) (.seq (.seq (.reg false [o 62 (.mv (.t 7)), o 63 (.bin .eql (.t 62) (.c (.int .i64 0)))]) (.cond (.t 63) (.seq (.reg false [o 64 (.mv (.t 5)), o 4 (.mv (.t 64))]) .ret) .skip)) (.seq (.reg false [o 65 (.mv (.t 1)), o 66 (.cvi .i64 (.t 65)), o 67 (.mv (.t 7)), o 68 (.min (.t 67) (.c (.int .i64 96))), o 69 (.bin .rem (.t 66) (.t 68)), o 11 (.mv (.t 69))]) (.seq (.reg false [o 71 (.mv (.t 6)), o 72 (.mv (.t 11)), o 73 (.bin .quo (.t 72) (.c (.int .i64 10))), o 74 (.bin .add (.c (.int .i64 97)) (.t 73)), o 75 (.cvi .u8 (.t 74)), o 76 (.mv (.t 11)), o 77 (.bin .rem (.t 76) (.c (.int .i64 10))), o 78 (.bin .add (.c (.int .i64 48)) (.t 77)), o 79 (.cvi .u8 (.t 78)), o 80 (.bslice 1 (.int .u8 0) 2 [(0, .t 75), (1, .t 79)]), o 81 (.b2s (.t 80)), o 82 (.call 16 [.t 71, .t 81, .c (.int .i64 1000)]), o 70 (.mv (.t 82)), o 83 (.ext (.t 70) 0), o 84 (.ext (.t 70) 1), o 12 (.mv (.t 83)), o 13 (.mv (.t 84))]) (.seq (.reg false [o 86 (.mv (.t 12)), o 87 (.mv (.t 11)), o 88 (.bin .quo (.t 87) (.c (.int .i64 10))), o 89 (.bin .add (.c (.int .i64 97)) (.t 88)), o 90 (.cvi .u8 (.t 89)), o 91 (.mv (.t 11)), o 92 (.bin .rem (.t 91) (.c (.int .i64 10))), o 93 (.bin .add (.c (.int .i64 48)) (.t 92)), o 94 (.cvi .u8 (.t 93)), o 95 (.bslice 1 (.int .u8 0) 2 [(0, .t 90), (1, .t 94)]), o 96 (.b2s (.t 95)), o 97 (.call 14 [.t 86, .t 96]), o 85 (.mv (.t 97)), o 98 (.ext (.t 85) 0), o 99 (.ext (.t 85) 1), o 14 (.mv (.t 98)), o 15 (.mv (.t 99))]) (.seq (.reg false [o 100 (.mv (.t 5)), o 101 (.mv (.t 100)), go 102 101 true (.mv (.t 13)), go 103 101 true (.bin .eql (.t 102) (.c (.int .i64 0))), o 104 (.pick (.t 101) (.t 103) (.c (.bool false))), o 105 (.mv (.t 104)), go 106 105 true (.mv (.t 14)), go 107 105 true (.bin .eql (.t 106) (.c (.int .i64 1000))), o 108 (.pick (.t 105) (.t 107) (.c (.bool false))), o 109 (.mv (.t 108)), go 110 109 true (.mv (.t 15)), o 111 (.pick (.t 109) (.t 110) (.c (.bool false))), o 112 (.mv (.t 111)), go 113 112 true (.mv (.t 12)), go 114 112 true (.call 19 [.t 113]), go 115 112 true (.len 1 (.t 114)), go 116 112 true (.mv (.t 7)), go 117 112 true (.min (.t 116) (.c (.int .i64 96))), go 118 112 true (.bin .eql (.t 115) (.t 117)), o 119 (.pick (.t 112) (.t 118) (.c (.bool false))), o 4 (.mv (.t 119))]) .ret)))))))))
theorem comp5 : Compiled Try.prog 5 2 c5 [.t 4] := .fn Try.func5 (by kernel_rfl) (by kernel_rfl)
def c6 : MC := .seq (.reg false [o 2 (.mv (.c (.bool false)))]) (.seq (.reg false [o 12 (.call 8 []), o 3 (.mv (.t 12))]) (.seq (.seq (.reg false [o 13 (.mv (.t 0)), o 14 (.call 9 [.t 13, .c (.int .i64 60)]), o 15 (.un .not (.t 14))]) (.cond (.t 15) (.seq (.reg false [o 16 (.mv (.t 3)), o 2 (.mv (.t 16))]) .ret) .skip)) (.seq (.reg false [o 17 (.call 10 []), o 4 (.mv (.t 17))]) (.seq (.seq (.reg false [o 5 (.mv (.c (.int .i64 0)))]) (.block 0 (.loop (.seq (.seq (.reg false [o 18 (.mv (.t 5)), o 19 (.mv (.t 0)), o 20 (.len 1 (.t 19)), o 21 (.bin .lss (.t 18) (.t 20))]) (.cond (.t 21) .skip (.exit 0))) (.seq (.block 1 (.seq (.reg false [o 25 (.mv (.t 4)), o 26 (.mv (.t 0)), o 27 (.mv (.t 5)), o 28 (.ia 3 (.t 26) (.t 27)), o 29 (.ld (some 3) (.t 28)), o 30 (.call 11 [.t 25, .t 29]), o 24 (.mv (.t 30)), o 31 (.ext (.t 24) 0), o 32 (.ext (.t 24) 1), o 6 (.mv (.t 31)), o 7 (.mv (.t 32))]) (.reg false [o 33 (.mv (.t 6)), o 4 (.mv (.t 33))]))) (.reg false [o 22 (.mv (.t 5)), o 23 (.bin .add (.t 22) (.c (.int .i64 1))), o 5 (.mv (.t 23))])))))) (.seq (.reg false [o 34 (.mv (.t 4)), o 35 (.call 19 [.t 34]), o 8 (.mv (.t 35))]) (.seq (.reg false [o 9 (.mv (.c (.int .i64 0)))]) (.seq (.seq (.reg false [o 10 (.mv (.c (.int .i64 0)))]) (.block 2 (.loop (.seq (.seq (.reg false [o 36 (.mv (.t 10)), o 37 (.mv (.t 4)), o 38 (.len 1 (.t 37)), o 39 (.bin .lss (.t 36) (.t 38))]) (.cond (.t 39) .skip (.exit 2))) (.seq (.block 3 (.seq (.reg false [o 42 (.mv (.t 4)), o 43 (.mv (.t 10)), o 44 (.ia 2 (.t 42) (.t 43)), o 45 (.fa 0 (.t 44)), o 46 (.ld none (.t 45)), o 47 (.bin .neq (.t 46) (.c (.str [])))]) (.cond (.t 47) (.reg false [o 48 (.mv (.t 9)), o 49 (.bin .add (.t 48) (.c (.int .i64 1))), o 9 (.mv (.t 49))]) .skip))) (.reg false [o 40 (.mv (.t 10)), o 41 (.bin .add (.t 40) (.c (.int .i64 1))), o 10 (.mv (.t 41))])))))) (.seq (.seq (.reg false [o 11 (.mv (.c (.int .i64 0)))]) (.block 4 (.loop (.seq (.seq (.reg false [o 50 (.mv (.t 11)), o 51 (.mv (.t 8)), o 52 (.len 1 (.t 51)), o 53 (.bin .lss (.t 50) (.t 52))]) (.cond (.t 53) .skip (.exit 4))) (.seq (.block 5 (.seq (.reg true [o 56 (.mv (.t 4)), o 57 (.mv (.t 8)), o 58 (.mv (.t 11)), o 59 (.ia 1 (.t 57) (.t 58)), o 60 (.ld none (.t 59)), o 61 (.call 12 [.t 56, .t 60]), o 62 (.un .not (.t 61)), o 63 (.mv (.t 62)), go 64 63 false (.mv (.t 8)), go 65 63 false (.mv (.t 11)), go 66 63 false (.ia 1 (.t 64) (.t 65)), go 67 63 false (.ld none (.t 66)), go 68 63 false (.call 13 [.t 67]), go 69 63 false (.un .not (.t 68)), o 70 (.pick (.t 63) (.c (.bool true)) (.t 69)), o 71 (.mv (.t 70)), go 72 71 false (.mv (.t 11)), go 73 71 false (.bin .gtr (.t 72) (.c (.int .i64 0))), go 74 71 false (.mv (.t 73)), go 75 74 true (.mv (.t 8)), go 76 74 true (.mv (.t 11)), go 77 74 true (.bin .sub (.t 76) (.c (.int .i64 1))), go 78 74 true (.ia 1 (.t 75) (.t 77)), go 79 74 true (.ld none (.t 78)), go 80 74 true (.mv (.t 8)), go 81 74 true (.mv (.t 11)), go 82 74 true (.ia 1 (.t 80) (.t 81)), go 83 74 true (.ld none (.t 82)), go 84 74 true (.bin .geq (.t 79) (.t 83)), go 85 71 false (.pick (.t 74) (.t 84) (.c (.bool false))), o 86 (.pick (.t 71) (.c (.bool true)) (.t 85))]) (.cond (.t 86) (.seq (.reg false [o 2 (.mv (.c (.bool false)))]) .ret) .skip))) (.reg false [o 54 (.mv (.t 11)), o 55 (.bin .add (.t 54) (.c (.int .i64 1))), o 11 (.mv (.t 55))])))))) (.seq (.reg false [o 87 (.mv (.t 3)), o 88 (.mv (.t 87)), go 89 88 true (.mv (.t 9)), go 90 88 true (.mv (.t 8)), go 91 88 true (.len 1 (.t 90)), go 92 88 true (.bin .eql (.t 89) (.t 91)), o 93 (.pick (.t 88) (.t 92) (.c (.bool false))), o 2 (.mv (.t 93))]) .ret)))))))))
theorem comp6 : Compiled Try.prog 6 1 c6 [.t 2] := .fn Try.func6 (by kernel_rfl) (by kernel_rfl)
def c7 : MC := .seq (.reg false [o 6 (.mv (.c (.bool false)))]) (.seq (.reg false [o 25 (.call 8 []), o 7 (.mv (.t 25))]) (.seq (.seq (.reg false [o 26 (.mv (.t 0)), o 27 (.len 1 (.t 26)), o 28 (.bin .gtr (.t 27) (.c (.int .i64 30))), o 29 (.mv (.t 28)), go 30 29 false (.mv (.t 2)), go 31 29 false (.len 0 (.t 30)), go 32 29 false (.bin .gtr (.t 31) (.c (.int .i64 100))), o 33 (.pick (.t 29) (.c (.bool true)) (.t 32))]) (.cond (.t 33) (.seq (.reg false [o 34 (.mv (.t 7)), o 6 (.mv (.t 34))]) .ret) .skip)) (.seq (.reg false [o 35 (.call 10 []), o 8 (.mv (.t 35))]) (.seq (.reg false [o 36 (.call 10 []), o 9 (.mv (.t 36))]) (.seq (.seq (.reg false [o 10 (.mv (.c (.int .i64 0)))]) (.block 0 (.loop (.seq (.seq (.reg false [o 37 (.mv (.t 10)), o 38 (.mv (.t 0)), o 39 (.len 1 (.t 38)), o 40 (.bin .lss (.t 37) (.t 39))]) (.cond (.t 40) .skip (.exit 0))) (.seq (.block 1 (.seq (.reg false [o 43 (.mv (.t 10)), o 44 (.mv (.t 1)), o 45 (.cvi .i64 (.t 44)), o 46 (.bin .add (.t 43) (.t 45)), o 47 (.mv (.t 0)), o 48 (.len 1 (.t 47)), o 49 (.bin .rem (.t 46) (.t 48)), o 11 (.mv (.t 49))]) (.seq (.seq (.reg false [o 50 (.mv (.t 0)), o 51 (.mv (.t 10)), o 52 (.ia 1 (.t 50) (.t 51)), o 53 (.ld none (.t 52)), o 54 (.len 0 (.t 53)), o 55 (.bin .gtr (.t 54) (.c (.int .i64 100)))]) (.cond (.t 55) (.seq (.reg false [o 56 (.mv (.t 7)), o 6 (.mv (.t 56))]) .ret) .skip)) (.seq (.reg true [o 58 (.mv (.t 8)), o 59 (.mv (.t 0)), o 60 (.mv (.t 10)), o 61 (.ia 1 (.t 59) (.t 60)), o 62 (.ld none (.t 61)), o 63 (.mv (.t 0)), o 64 (.mv (.t 10)), o 65 (.ia 1 (.t 63) (.t 64)), o 66 (.ld none (.t 65)), o 67 (.len 0 (.t 66)), o 68 (.call 16 [.t 58, .t 62, .t 67]), o 57 (.mv (.t 68)), o 69 (.ext (.t 57) 0), o 70 (.ext (.t 57) 1), o 12 (.mv (.t 69)), o 13 (.mv (.t 70))]) (.seq (.reg true [o 72 (.mv (.t 9)), o 73 (.mv (.t 0)), o 74 (.mv (.t 11)), o 75 (.ia 1 (.t 73) (.t 74)), o 76 (.ld none (.t 75)), o 77 (.mv (.t 0)), o 78 (.mv (.t 11)), o 79 (.ia 1 (.t 77) (.t 78)), o 80 (.ld none (.t 79)), o 81 (.len 0 (.t 80)), o 82 (.call 16 [.t 72, .t 76, .t 81]), o 71 (.mv (.t 82)), o 83 (.ext (.t 71) 0), o 84 (.ext (.t 71) 1), o 14 (.mv (.t 83)), o 15 (.mv (.t 84))]) (.seq (.reg false [o 85 (.mv (.t 12)), o 8 (.mv (.t 85))]) (.reg false [o 86 (.mv (.t 14)), o 9 (.mv (.t 86))]))))))) (.reg false [o 41 (.mv (.t 10)), o 42 (.bin .add (.t 41) (.c (.int .i64 1))), o 10 (.mv (.t 42))])))))) (.seq (.reg false [o 88 (.mv (.t 8)), o 89 (.mv (.t 2)), o 90 (.call 18 [.t 88, .t 89]), o 87 (.mv (.t 90)), o 91 (.ext (.t 87) 0), o 92 (.ext (.t 87) 1), o 16 (.mv (.t 91)), o 17 (.mv (.t 92))]) (.seq (.reg false [o 94 (.mv (.t 9)), o 95 (.mv (.t 2)), o 96 (.call 18 [.t 94, .t 95]), o 93 (.mv (.t 96)), o 97 (.ext (.t 93) 0), o 98 (.ext (.t 93) 1), o 18 (.mv (.t 97)), o 19 (.mv (.t 98))]) (.seq (.seq (.reg false [o 20 (.mv (.c (.int .i64 0)))]) (.block 2 (.loop (.seq (.seq (.reg false [o 99 (.mv (.t 20)), o 100 (.mv (.t 0)), o 101 (.len 1 (.t 100)), o 102 (.bin .lss (.t 99) (.t 101))]) (.cond (.t 102) .skip (.exit 2))) (.seq (.block 3 (.seq (.reg false [o 106 (.mv (.t 16)), o 107 (.mv (.t 0)), o 108 (.mv (.t 20)), o 109 (.ia 1 (.t 107) (.t 108)), o 110 (.ld none (.t 109)), o 111 (.call 14 [.t 106, .t 110]), o 105 (.mv (.t 111)), o 112 (.ext (.t 105) 0), o 113 (.ext (.t 105) 1), o 21 (.mv (.t 112)), o 22 (.mv (.t 113))]) (.seq (.reg false [o 115 (.mv (.t 18)), o 116 (.mv (.t 0)), o 117 (.mv (.t 20)), o 118 (.ia 1 (.t 116) (.t 117)), o 119 (.ld none (.t 118)), o 120 (.call 14 [.t 115, .t 119]), o 114 (.mv (.t 120)), o 121 (.ext (.t 114) 0), o 122 (.ext (.t 114) 1), o 23 (.mv (.t 121)), o 24 (.mv (.t 122))]) (.seq (.reg false [o 123 (.mv (.t 21)), o 124 (.mv (.t 23)), o 125 (.bin .neq (.t 123) (.t 124)), o 126 (.mv (.t 125)), go 127 126 false (.mv (.t 22)), go 128 126 false (.mv (.t 24)), go 129 126 false (.eqB true (.t 127) (.t 128)), o 130 (.pick (.t 126) (.c (.bool true)) (.t 129))]) (.cond (.t 130) (.seq (.reg false [o 6 (.mv (.c (.bool false)))]) .ret) .skip))))) (.reg false [o 103 (.mv (.t 20)), o 104 (.bin .add (.t 103) (.c (.int .i64 1))), o 20 (.mv (.t 104))])))))) (.seq (.reg false [o 131 (.mv (.t 7)), o 132 (.mv (.t 131)), go 133 132 true (.mv (.t 17)), go 134 132 true (.mv (.t 19)), go 135 132 true (.bin .eql (.t 133) (.t 134)), o 136 (.pick (.t 132) (.t 135) (.c (.bool false))), o 137 (.mv (.t 136)), go 138 137 true (.mv (.t 16)), go 139 137 true (.call 19 [.t 138]), go 140 137 true (.mv (.t 18)), go 141 137 true (.call 19 [.t 140]), go 142 137 true (.call 20 [.t 139, .t 141]), o 143 (.pick (.t 137) (.t 142) (.c (.bool false))), o 6 (.mv (.t 143))]) .ret)))))))))
theorem comp7 : Compiled Try.prog 7 3 c7 [.t 6] := .fn Try.func7 (by kernel_rfl) (by kernel_rfl)
def c8 : MC := .seq (.reg false [o 0 (.mv (.c (.bool false)))]) (.seq (.reg false [o 15 (.call 10 []), o 16 (.call 16 [.t 15, .c (.str [98]), .c (.int .i64 5)]), o 14 (.mv (.t 16)), o 17 (.ext (.t 14) 0), o 18 (.ext (.t 14) 1), o 1 (.mv (.t 17)), o 2 (.mv (.t 18))]) (.seq (.reg false [o 20 (.mv (.t 1)), o 21 (.call 16 [.t 20, .c (.str [97]), .c (.int .i64 7)]), o 19 (.mv (.t 21)), o 22 (.ext (.t 19) 0), o 23 (.ext (.t 19) 1), o 1 (.mv (.t 22))]) (.seq (.reg false [o 25 (.mv (.t 1)), o 26 (.call 16 [.t 25, .c (.str [98]), .c (.int .i64 6)]), o 24 (.mv (.t 26)), o 27 (.ext (.t 24) 0), o 28 (.ext (.t 24) 1), o 1 (.mv (.t 27)), o 3 (.mv (.t 28))]) (.seq (.reg false [o 30 (.mv (.t 1)), o 31 (.call 16 [.t 30, .c (.str []), .c (.int .i64 1)]), o 29 (.mv (.t 31)), o 32 (.ext (.t 29) 0), o 33 (.ext (.t 29) 1), o 4 (.mv (.t 32)), o 5 (.mv (.t 33))]) (.seq (.reg false [o 35 (.mv (.t 1)), o 36 (.call 14 [.t 35, .c (.str [98])]), o 34 (.mv (.t 36)), o 37 (.ext (.t 34) 0), o 38 (.ext (.t 34) 1), o 6 (.mv (.t 37)), o 7 (.mv (.t 38))]) (.seq (.reg false [o 40 (.mv (.t 1)), o 41 (.call 18 [.t 40, .c (.str [98])]), o 39 (.mv (.t 41)), o 42 (.ext (.t 39) 0), o 43 (.ext (.t 39) 1), o 8 (.mv (.t 42)), o 9 (.mv (.t 43))]) (.seq (.reg false [o 45 (.mv (.t 8)), o 46 (.call 14 [.t 45, .c (.str [98])]), o 44 (.mv (.t 46)), o 47 (.ext (.t 44) 0), o 48 (.ext (.t 44) 1), o 10 (.mv (.t 47)), o 11 (.mv (.t 48))]) (.seq (.reg false [o 50 (.mv (.t 8)), o 51 (.call 18 [.t 50, .c (.str [98])]), o 49 (.mv (.t 51)), o 52 (.ext (.t 49) 0), o 53 (.ext (.t 49) 1), o 12 (.mv (.t 52)), o 13 (.mv (.t 53))]) (.seq (.reg false [o 54 (.mv (.t 2)), o 55 (.bin .eql (.t 54) (.c (.int .i64 0))), o 56 (.mv (.t 55)), go 57 56 true (.mv (.t 3)), go 58 56 true (.bin .eql (.t 57) (.c (.int .i64 0))), o 59 (.pick (.t 56) (.t 58) (.c (.bool false))), o 60 (.mv (.t 59)), go 61 60 true (.mv (.t 5)), go 62 60 true (.bin .eql (.t 61) (.c (.int .i64 90))), o 63 (.pick (.t 60) (.t 62) (.c (.bool false))), o 64 (.mv (.t 63)), go 65 64 true (.mv (.t 6)), go 66 64 true (.bin .eql (.t 65) (.c (.int .i64 6))), o 67 (.pick (.t 64) (.t 66) (.c (.bool false))), o 68 (.mv (.t 67)), go 69 68 true (.mv (.t 7)), o 70 (.pick (.t 68) (.t 69) (.c (.bool false))), o 71 (.mv (.t 70)), go 72 71 true (.mv (.t 9)), go 73 71 true (.bin .eql (.t 72) (.c (.int .i64 0))), o 74 (.pick (.t 71) (.t 73) (.c (.bool false))), o 75 (.mv (.t 74)), go 76 75 true (.mv (.t 11)), go 77 75 true (.un .not (.t 76)), o 78 (.pick (.t 75) (.t 77) (.c (.bool false))), o 79 (.mv (.t 78)), go 80 79 true (.mv (.t 13)), go 81 79 true (.bin .eql (.t 80) (.c (.int .i64 120))), o 82 (.pick (.t 79) (.t 81) (.c (.bool false))), o 83 (.mv (.t 82)), go 84 83 true (.mv (.t 1)), go 85 83 true (.call 19 [.t 84]), go 86 83 true (.bslice 1 (.str []) 2 [(0, .c (.str [97])), (1, .c (.str [98]))]), go 87 83 true (.call 20 [.t 85, .t 86]), o 88 (.pick (.t 83) (.t 87) (.c (.bool false))), o 89 (.mv (.t 88)), go 90 89 true (.call 10 []), go 91 89 true (.len 1 (.t 90)), go 92 89 true (.bin .eql (.t 91) (.c (.int .i64 128))), o 93 (.pick (.t 89) (.t 92) (.c (.bool false))), o 94 (.mv (.t 93)), go 95 94 true (.mv (.t 1)), go 96 94 true (.call 15 [.t 95]), o 97 (.pick (.t 94) (.t 96) (.c (.bool false))), o 98 (.mv (.t 97)), go 99 98 true (.call 15 [.c .nils]), go 100 98 true (.un .not (.t 99)), o 101 (.pick (.t 98) (.t 100) (.c (.bool false))), o 102 (.mv (.t 101)), o 103 (.pick (.t 102) (.c (.bool true)) (.c (.bool false))), o 104 (.mv (.t 103)), o 105 (.pick (.t 104) (.c (.bool true)) (.c (.bool false))), o 0 (.mv (.t 105))]) .ret)))))))))
theorem comp8 : Compiled Try.prog 8 0 c8 [.t 0] := .fn Try.func8 (by kernel_rfl) (by kernel_rfl)
def c9 : MC := .seq (.reg false [o 4 (.mv (.c (.bool false)))]) (.seq (.seq (.reg false [o 5 (.mv (.c (.int .i64 0)))]) (.block 0 (.loop (.seq (.seq (.reg false [o 6 (.mv (.t 5)), o 7 (.mv (.t 0)), o 8 (.len 1 (.t 7)), o 9 (.bin .lss (.t 6) (.t 8))]) (.cond (.t 9) .skip (.exit 0))) (.seq (.block 1 (.seq (.reg false [o 12 (.mv (.t 0)), o 13 (.mv (.t 5)), o 14 (.ia 3 (.t 12) (.t 13)), o 15 (.fa 1 (.t 14)), o 16 (.ld none (.t 15)), o 17 (.len 0 (.t 16)), o 18 (.bin .gtr (.t 17) (.c (.int .i64 100)))]) (.cond (.t 18) (.seq (.reg false [o 4 (.mv (.c (.bool false)))]) .ret) .skip))) (.reg false [o 10 (.mv (.t 5)), o 11 (.bin .add (.t 10) (.c (.int .i64 1))), o 5 (.mv (.t 11))])))))) (.seq (.reg false [o 19 (.mv (.t 0)), o 20 (.len 1 (.t 19)), o 21 (.mv (.t 1)), o 22 (.bin .leq (.t 20) (.t 21)), o 4 (.mv (.t 22))]) .ret))
theorem comp9 : Compiled Try.prog 9 2 c9 [.t 4] := .fn Try.func9 (by kernel_rfl) (by kernel_rfl)
def c10 : MC := .seq (.reg false [o 0 (.mv (.c .nils))]) (.seq (.reg false [o 1 (.mks 2 24 (.agg [.str [], .int .i64 0]) (.c (.int .i64 128)) (.c (.int .i64 128))), o 0 (.mv (.t 1))]) .ret)
theorem comp10 : Compiled Try.prog 10 0 c10 [.t 0] := .fn Try.func10 (by kernel_rfl) (by kernel_rfl)
def c11 : MC := .seq (.reg false [o 3 (.box 3 (.t 1)), o 4 (.mv (.c .nils)), o 5 (.mv (.c (.int .i64 0)))]) (.seq (.seq (.reg false [o 6 (.fa 0 (.t 3)), o 7 (.ld none (.t 6))]) (.cond (.t 7) (.seq (.reg false [o 8 (.mv (.t 0)), o 9 (.fa 1 (.t 3)), o 10 (.ld none (.t 9)), o 11 (.call 18 [.t 8, .t 10]), o 12 (.ext (.t 11) 0), o 13 (.ext (.t 11) 1), o 4 (.mv (.t 12)), o 5 (.mv (.t 13))]) .ret) .skip)) (.seq (.reg false [o 14 (.mv (.t 0)), o 15 (.fa 1 (.t 3)), o 16 (.ld none (.t 15)), o 17 (.fa 2 (.t 3)), o 18 (.ld none (.t 17)), o 19 (.call 16 [.t 14, .t 16, .t 18]), o 20 (.ext (.t 19) 0), o 21 (.ext (.t 19) 1), o 4 (.mv (.t 20)), o 5 (.mv (.t 21))]) .ret))
theorem comp11 : Compiled Try.prog 11 2 c11 [.t 4, .t 5] := .fn Try.func11 (by kernel_rfl) (by kernel_rfl)
def c12 : MC := .seq (.reg false [o 4 (.mv (.c (.bool false)))]) (.seq (.reg false [o 8 (.mv (.t 0)), o 9 (.mv (.t 1)), o 10 (.call 14 [.t 8, .t 9]), o 7 (.mv (.t 10)), o 11 (.ext (.t 7) 0), o 12 (.ext (.t 7) 1), o 5 (.mv (.t 11)), o 6 (.mv (.t 12))]) (.seq (.reg false [o 13 (.mv (.t 6)), o 4 (.mv (.t 13))]) .ret))
theorem comp12 : Compiled Try.prog 12 2 c12 [.t 4] := .fn Try.func12 (by kernel_rfl) (by kernel_rfl)
def c13 : MC := .seq (.reg false [o 2 (.mv (.c (.bool false)))]) (.seq (.reg false [o 3 (.mv (.t 0)), o 4 (.len 0 (.t 3)), o 5 (.bin .geq (.t 4) (.c (.int .i64 1))), o 6 (.mv (.t 5)), go 7 6 true (.mv (.t 0)), go 8 6 true (.len 0 (.t 7)), go 9 6 true (.bin .leq (.t 8) (.c (.int .i64 16))), o 10 (.pick (.t 6) (.t 9) (.c (.bool false))), o 2 (.mv (.t 10))]) .ret)
theorem comp13 : Compiled Try.prog 13 1 c13 [.t 2] := .fn Try.func13 (by kernel_rfl) (by kernel_rfl)
def c14 : MC := .seq (.reg false [o 4 (.mv (.c (.int .i64 0))), o 5 (.mv (.c (.bool false)))]) (.seq (.seq (.reg false [o 8 (.mv (.t 0)), o 9 (.call 15 [.t 8]), o 10 (.un .not (.t 9)), o 11 (.mv (.t 10)), go 12 11 false (.mv (.t 1)), go 13 11 false (.bin .eql (.t 12) (.c (.str []))), o 14 (.pick (.t 11) (.c (.bool true)) (.t 13))]) (.cond (.t 14) (.seq (.reg false [o 4 (.mv (.c (.int .i64 0))), o 5 (.mv (.c (.bool false)))]) .ret) .skip)) (.seq (.reg false [o 16 (.mv (.t 0)), o 17 (.mv (.t 1)), o 18 (.call 21 [.t 16, .t 17]), o 15 (.mv (.t 18)), o 19 (.ext (.t 15) 0), o 20 (.ext (.t 15) 1), o 6 (.mv (.t 19)), o 7 (.mv (.t 20))]) (.seq (.seq (.reg false [o 21 (.mv (.t 7)), o 22 (.un .not (.t 21))]) (.cond (.t 22) (.seq (.reg false [o 4 (.mv (.c (.int .i64 0))), o 5 (.mv (.c (.bool false)))]) .ret) .skip)) (.seq (.reg false [o 23 (.mv (.t 0)), o 24 (.mv (.t 6)), o 25 (.ia 2 (.t 23) (.t 24)), o 26 (.fa 1 (.t 25)), o 27 (.ld none (.t 26)), o 4 (.mv (.t 27)), o 5 (.mv (.c (.bool true)))]) .ret))))
theorem comp14 : Compiled Try.prog 14 2 c14 [.t 4, .t 5] := .fn Try.func14 (by kernel_rfl) (by kernel_rfl)
def c15 : MC := .seq (.reg false [o 2 (.mv (.c (.bool false)))]) (.seq (.reg false [o 3 (.mv (.c (.int .i64 0)))]) (.seq (.seq (.reg false [o 11 (.mv (.t 0)), o 12 (.len 1 (.t 11)), o 13 (.bin .neq (.t 12) (.c (.int .i64 128)))]) (.cond (.t 13) (.seq (.reg false [o 2 (.mv (.c (.bool false)))]) .ret) .skip)) (.seq (.seq (.reg false [o 14 (.mv (.t 0)), o 15 (.len 1 (.t 14)), o 16 (.mv (.c (.int .i64 0)))]) (.block 0 (.loop (.seq (.reg false [o 17 (.bin .lss (.t 16) (.t 15))]) (.seq (.cond (.t 17) .skip (.exit 0)) (.seq (.block 1 (.seq (.reg false [o 18 (.ia 2 (.t 14) (.t 16)), o 19 (.ld (some 2) (.t 18)), o 5 (.new 2 (.agg [.str [], .int .i64 0])), s (.st 2 (.t 5) (.t 19))]) (.seq (.seq (.reg false [o 20 (.fa 0 (.t 5)), o 21 (.ld none (.t 20)), o 22 (.bin .neq (.t 21) (.c (.str [])))]) (.cond (.t 22) (.reg false [o 23 (.mv (.t 3)), o 24 (.bin .add (.t 23) (.c (.int .i64 1))), o 3 (.mv (.t 24))]) .skip)) (.seq (.reg false [o 25 (.fa 0 (.t 5)), o 26 (.ld none (.t 25)), o 27 (.bin .eql (.t 26) (.c (.str []))), o 28 (.mv (.t 27)), go 29 28 true (.fa 1 (.t 5)), go 30 28 true (.ld none (.t 29)), go 31 28 true (.bin .neq (.t 30) (.c (.int .i64 0))), o 32 (.pick (.t 28) (.t 31) (.c (.bool false))), o 33 (.mv (.t 32)), go 34 33 false (.fa 0 (.t 5)), go 35 33 false (.ld none (.t 34)), go 36 33 false (.bin .neq (.t 35) (.c (.str []))), go 37 33 false (.mv (.t 36)), go 38 37 true (.fa 0 (.t 5)), go 39 37 true (.ld none (.t 38)), go 40 37 true (.call 13 [.t 39]), go 41 37 true (.un .not (.t 40)), go 42 33 false (.pick (.t 37) (.t 41) (.c (.bool false))), o 43 (.pick (.t 33) (.c (.bool true)) (.t 42))]) (.cond (.t 43) (.seq (.reg false [o 2 (.mv (.c (.bool false)))]) .ret) .skip))))) (.reg false [o 44 (.bin .add (.t 16) (.c (.int .i64 1))), o 16 (.mv (.t 44))]))))))) (.seq (.seq (.reg false [o 45 (.mv (.t 3)), o 46 (.bin .gtr (.t 45) (.c (.int .i64 96)))]) (.cond (.t 46) (.seq (.reg false [o 2 (.mv (.c (.bool false)))]) .ret) .skip)) (.seq (.reg false [o 6 (.mv (.f 22))]) (.seq (.seq (.reg false [o 47 (.mv (.t 0)), o 48 (.len 1 (.t 47)), o 49 (.mv (.c (.int .i64 0)))]) (.block 2 (.loop (.seq (.reg false [o 50 (.bin .lss (.t 49) (.t 48))]) (.seq (.cond (.t 50) .skip (.exit 2)) (.seq (.block 3 (.seq (.reg false [o 51 (.mv (.t 49)), o 52 (.ia 2 (.t 47) (.t 49)), o 53 (.ld (some 2) (.t 52)), o 8 (.new 2 (.agg [.str [], .int .i64 0])), o 7 (.mv (.t 51)), s (.st 2 (.t 8) (.t 53))]) (.seq (.seq (.reg false [o 54 (.mv (.t 6)), o 55 (.ld (some 2) (.t 8)), o 56 (.callv (.t 54) [.t 55]), o 57 (.un .not (.t 56))]) (.cond (.t 57) (.exit 3) .skip)) (.seq (.reg false [o 59 (.mv (.t 0)), o 60 (.fa 0 (.t 8)), o 61 (.ld none (.t 60)), o 62 (.call 21 [.t 59, .t 61]), o 58 (.mv (.t 62)), o 63 (.ext (.t 58) 0), o 64 (.ext (.t 58) 1), o 9 (.mv (.t 63)), o 10 (.mv (.t 64))]) (.seq (.reg false [o 65 (.mv (.t 10)), o 66 (.un .not (.t 65)), o 67 (.mv (.t 66)), go 68 67 false (.mv (.t 9)), go 69 67 false (.mv (.t 7)), go 70 67 false (.bin .neq (.t 68) (.t 69)), o 71 (.pick (.t 67) (.c (.bool true)) (.t 70))]) (.cond (.t 71) (.seq (.reg false [o 2 (.mv (.c (.bool false)))]) .ret) .skip)))))) (.reg false [o 72 (.bin .add (.t 49) (.c (.int .i64 1))), o 49 (.mv (.t 72))]))))))) (.seq (.reg false [o 2 (.mv (.c (.bool true)))]) .ret)))))))
theorem comp15 : Compiled Try.prog 15 1 c15 [.t 2] := .fn Try.func15 (by kernel_rfl) (by kernel_rfl)
def c16 : MC := .seq (.reg false [o 6 (.mv (.c .nils)), o 7 (.mv (.c (.int .i64 0)))]) (.seq (.reg false [o 11 (.mv (.t 0)), o 12 (.call 23 [.t 11]), o 8 (.mv (.t 12))]) (.seq (.block 0 (.seq (.reg false [o 14 (.mv (.t 0)), o 15 (.call 15 [.t 14]), o 16 (.un .not (.t 15)), o 13 (.mv (.t 16))]) (.cond (.t 13) (.seq (.reg false [o 17 (.mv (.t 8)), o 6 (.mv (.t 17)), o 7 (.mv (.c (.int .i64 120)))]) .ret) (.seq (.reg false [o 19 (.mv (.t 1)), o 20 (.call 13 [.t 19]), o 21 (.un .not (.t 20)), o 18 (.mv (.t 21))]) (.cond (.t 18) (.seq (.reg false [o 22 (.mv (.t 8)), o 6 (.mv (.t 22)), o 7 (.mv (.c (.int .i64 90)))]) .ret) .skip))))) (.seq (.reg false [o 24 (.mv (.t 0)), o 25 (.mv (.t 1)), o 26 (.call 21 [.t 24, .t 25]), o 23 (.mv (.t 26)), o 27 (.ext (.t 23) 0), o 28 (.ext (.t 23) 1), o 9 (.mv (.t 27)), o 10 (.mv (.t 28))]) (.seq (.seq (.reg false [o 29 (.mv (.t 10)), o 30 (.un .not (.t 29)), o 31 (.mv (.t 30)), go 32 31 true (.mv (.t 0)), go 33 31 true (.call 19 [.t 32]), go 34 31 true (.len 1 (.t 33)), go 35 31 true (.bin .geq (.t 34) (.c (.int .i64 96))), o 36 (.pick (.t 31) (.t 35) (.c (.bool false)))]) (.cond (.t 36) (.seq (.reg false [o 37 (.mv (.t 8)), o 6 (.mv (.t 37)), o 7 (.mv (.c (.int .i64 110)))]) .ret) .skip)) (.seq (.reg false [o 38 (.mv (.t 8)), o 39 (.mv (.t 9)), o 40 (.mv (.t 1)), o 41 (.mv (.t 2)), o 42 (.build [.str [], .int .i64 0] [(0, (1, .t 40)), (1, (1, .t 41))]), o 43 (.ia 2 (.t 38) (.t 39)), s (.st 2 (.t 43) (.t 42))]) (.seq (.reg false [o 44 (.mv (.t 8)), o 6 (.mv (.t 44)), o 7 (.mv (.c (.int .i64 0)))]) .ret))))))
theorem comp16 : Compiled Try.prog 16 3 c16 [.t 6, .t 7] := .fn Try.func16 (by kernel_rfl) (by kernel_rfl)
def c17 : MC := .seq (.reg false [o 4 (.mv (.c (.bool false)))]) (.seq (.seq (.reg false [o 6 (.mv (.t 0)), o 7 (.len 1 (.t 6)), o 8 (.mv (.t 1)), o 9 (.len 1 (.t 8)), o 10 (.bin .neq (.t 7) (.t 9))]) (.cond (.t 10) (.seq (.reg false [o 4 (.mv (.c (.bool false)))]) .ret) .skip)) (.seq (.seq (.reg false [o 5 (.mv (.c (.int .i64 0)))]) (.block 0 (.loop (.seq (.seq (.reg false [o 11 (.mv (.t 5)), o 12 (.mv (.t 0)), o 13 (.len 1 (.t 12)), o 14 (.bin .lss (.t 11) (.t 13))]) (.cond (.t 14) .skip (.exit 0))) (.seq (.block 1 (.seq (.reg true [o 17 (.mv (.t 0)), o 18 (.mv (.t 5)), o 19 (.ia 2 (.t 17) (.t 18)), o 20 (.ld (some 2) (.t 19)), o 21 (.mv (.t 1)), o 22 (.mv (.t 5)), o 23 (.ia 2 (.t 21) (.t 22)), o 24 (.ld (some 2) (.t 23)), o 25 (.eqT true [2, 0] (.t 20) (.t 24))]) (.cond (.t 25) (.seq (.reg false [o 4 (.mv (.c (.bool false)))]) .ret) .skip))) (.reg false [o 15 (.mv (.t 5)), o 16 (.bin .add (.t 15) (.c (.int .i64 1))), o 5 (.mv (.t 16))])))))) (.seq (.reg false [o 4 (.mv (.c (.bool true)))]) .ret)))
theorem comp17 : Compiled Try.prog 17 2 c17 [.t 4] := .fn Try.func17 (by kernel_rfl) (by kernel_rfl)
def c18 : MC := .seq (.reg false [o 4 (.mv (.c .nils)), o 5 (.mv (.c (.int .i64 0)))]) (.seq (.reg false [o 12 (.mv (.t 0)), o 13 (.call 23 [.t 12]), o 6 (.mv (.t 13))]) (.seq (.seq (.reg false [o 15 (.mv (.t 0)), o 16 (.mv (.t 1)), o 17 (.call 14 [.t 15, .t 16]), o 14 (.mv (.t 17)), o 18 (.ext (.t 14) 0), o 19 (.ext (.t 14) 1), o 7 (.mv (.t 18)), o 8 (.mv (.t 19))]) (.seq (.reg false [o 20 (.mv (.t 8)), o 21 (.un .not (.t 20))]) (.cond (.t 21) (.seq (.reg false [o 22 (.mv (.t 6)), o 4 (.mv (.t 22)), o 5 (.mv (.c (.int .i64 120)))]) .ret) .skip))) (.seq (.reg false [o 24 (.mv (.t 0)), o 25 (.mv (.t 1)), o 26 (.call 21 [.t 24, .t 25]), o 23 (.mv (.t 26)), o 27 (.ext (.t 23) 0), o 28 (.ext (.t 23) 1), o 9 (.mv (.t 27)), o 10 (.mv (.t 28))]) (.seq (.seq (.reg false [o 29 (.mv (.t 9)), o 30 (.call 24 [.t 29]), o 11 (.mv (.t 30))]) (.block 0 (.loop (.seq (.seq (.reg false [o 31 (.mv (.t 6)), o 32 (.mv (.t 11)), o 33 (.ia 2 (.t 31) (.t 32)), o 34 (.fa 0 (.t 33)), o 35 (.ld none (.t 34)), o 36 (.bin .neq (.t 35) (.c (.str [])))]) (.cond (.t 36) .skip (.exit 0))) (.seq (.block 1 (.seq (.reg false [o 39 (.mv (.t 6)), o 40 (.mv (.t 11)), o 41 (.ia 2 (.t 39) (.t 40)), o 42 (.fa 0 (.t 41)), o 43 (.ld none (.t 42)), o 44 (.call 26 [.t 43]), o 45 (.mv (.t 11)), o 46 (.call 25 [.t 44, .t 45]), o 47 (.mv (.t 9)), o 48 (.mv (.t 11)), o 49 (.call 25 [.t 47, .t 48]), o 50 (.bin .geq (.t 46) (.t 49))]) (.cond (.t 50) (.reg false [o 51 (.mv (.t 6)), o 52 (.mv (.t 9)), o 53 (.mv (.t 6)), o 54 (.mv (.t 11)), o 55 (.ia 2 (.t 53) (.t 54)), o 56 (.ld (some 2) (.t 55)), o 57 (.mv (.t 11)), o 58 (.ia 2 (.t 51) (.t 52)), s (.st 2 (.t 58) (.t 56)), o 9 (.mv (.t 57))]) .skip))) (.reg false [o 37 (.mv (.t 11)), o 38 (.call 24 [.t 37]), o 11 (.mv (.t 38))])))))) (.seq (.reg false [o 59 (.mv (.t 6)), o 60 (.mv (.t 9)), o 61 (.build [.str [], .int .i64 0] []), o 62 (.ia 2 (.t 59) (.t 60)), s (.st 2 (.t 62) (.t 61))]) (.seq (.reg false [o 63 (.mv (.t 6)), o 4 (.mv (.t 63)), o 5 (.mv (.c (.int .i64 0)))]) .ret))))))
theorem comp18 : Compiled Try.prog 18 2 c18 [.t 4, .t 5] := .fn Try.func18 (by kernel_rfl) (by kernel_rfl)
def c19 : MC := .seq (.reg false [o 2 (.mv (.c .nils))]) (.seq (.seq (.reg false [o 5 (.mv (.t 0)), o 6 (.call 15 [.t 5]), o 7 (.un .not (.t 6))]) (.cond (.t 7) (.seq (.reg false [o 2 (.mv (.c .nils))]) .ret) .skip)) (.seq (.seq (.reg false [o 8 (.mv (.t 0)), o 9 (.len 1 (.t 8)), o 10 (.mv (.c (.int .i64 0)))]) (.block 0 (.loop (.seq (.reg false [o 11 (.bin .lss (.t 10) (.t 9))]) (.seq (.cond (.t 11) .skip (.exit 0)) (.seq (.block 1 (.seq (.reg false [o 12 (.ia 2 (.t 8) (.t 10)), o 13 (.ld (some 2) (.t 12)), o 4 (.new 2 (.agg [.str [], .int .i64 0])), s (.st 2 (.t 4) (.t 13))]) (.seq (.reg false [o 14 (.fa 0 (.t 4)), o 15 (.ld none (.t 14)), o 16 (.bin .neq (.t 15) (.c (.str [])))]) (.cond (.t 16) (.reg false [o 17 (.mv (.t 2)), o 18 (.fa 0 (.t 4)), o 19 (.ld none (.t 18)), o 20 (.bslice 1 (.str []) 1 [(0, .t 19)]), o 21 (.app 1 16 (.str []) (.t 17) (.t 20)), o 2 (.mv (.t 21))]) .skip)))) (.reg false [o 22 (.bin .add (.t 10) (.c (.int .i64 1))), o 10 (.mv (.t 22))]))))))) (.seq (.reg false [o 23 (.mv (.t 2)), o 24 (.call 27 [.t 23])]) (.seq (.reg false [o 25 (.mv (.t 2)), o 2 (.mv (.t 25))]) .ret))))
theorem comp19 : Compiled Try.prog 19 1 c19 [.t 2] := .fn Try.func19 (by kernel_rfl) (by kernel_rfl)
def c20 : MC := .seq (.reg false [o 4 (.mv (.c (.bool false)))]) (.seq (.seq (.reg false [o 6 (.mv (.t 0)), o 7 (.len 1 (.t 6)), o 8 (.mv (.t 1)), o 9 (.len 1 (.t 8)), o 10 (.bin .neq (.t 7) (.t 9))]) (.cond (.t 10) (.seq (.reg false [o 4 (.mv (.c (.bool false)))]) .ret) .skip)) (.seq (.seq (.reg false [o 5 (.mv (.c (.int .i64 0)))]) (.block 0 (.loop (.seq (.seq (.reg false [o 11 (.mv (.t 5)), o 12 (.mv (.t 0)), o 13 (.len 1 (.t 12)), o 14 (.bin .lss (.t 11) (.t 13))]) (.cond (.t 14) .skip (.exit 0))) (.seq (.block 1 (.seq (.reg true [o 17 (.mv (.t 0)), o 18 (.mv (.t 5)), o 19 (.ia 1 (.t 17) (.t 18)), o 20 (.ld none (.t 19)), o 21 (.mv (.t 1)), o 22 (.mv (.t 5)), o 23 (.ia 1 (.t 21) (.t 22)), o 24 (.ld none (.t 23)), o 25 (.bin .neq (.t 20) (.t 24))]) (.cond (.t 25) (.seq (.reg false [o 4 (.mv (.c (.bool false)))]) .ret) .skip))) (.reg false [o 15 (.mv (.t 5)), o 16 (.bin .add (.t 15) (.c (.int .i64 1))), o 5 (.mv (.t 16))])))))) (.seq (.reg false [o 4 (.mv (.c (.bool true)))]) .ret)))
theorem comp20 : Compiled Try.prog 20 2 c20 [.t 4] := .fn Try.func20 (by kernel_rfl) (by kernel_rfl)
def c21 : MC := .seq (.reg false [o 4 (.mv (.c (.int .i64 0))), o 5 (.mv (.c (.bool false)))]) (.scopeL 0 (.seq (.reg false [o 7 (.mv (.t 1)), o 8 (.call 26 [.t 7]), o 6 (.mv (.t 8))]) (.seq (.label 0) (.seq (.seq (.reg false [o 9 (.mv (.t 0)), o 10 (.mv (.t 6)), o 11 (.ia 2 (.t 9) (.t 10)), o 12 (.fa 0 (.t 11)), o 13 (.ld none (.t 12))]) (.block 0 (.seq (.reg false [o 15 (.mv (.t 1)), o 16 (.bin .eql (.t 13) (.t 15)), o 14 (.mv (.t 16))]) (.cond (.t 14) (.seq (.reg false [o 17 (.mv (.t 6)), o 4 (.mv (.t 17)), o 5 (.mv (.c (.bool true)))]) .ret) (.seq (.reg false [o 19 (.bin .eql (.t 13) (.c (.str []))), o 18 (.mv (.t 19))]) (.cond (.t 18) (.seq (.reg false [o 20 (.mv (.t 6)), o 4 (.mv (.t 20)), o 5 (.mv (.c (.bool false)))]) .ret) .skip)))))) (.seq (.reg false [o 21 (.mv (.t 6)), o 22 (.call 24 [.t 21]), o 6 (.mv (.t 22))]) (.goto 0))))) (.seq .skip (.seq (.seq (.reg false [o 9 (.mv (.t 0)), o 10 (.mv (.t 6)), o 11 (.ia 2 (.t 9) (.t 10)), o 12 (.fa 0 (.t 11)), o 13 (.ld none (.t 12))]) (.block 0 (.seq (.reg false [o 15 (.mv (.t 1)), o 16 (.bin .eql (.t 13) (.t 15)), o 14 (.mv (.t 16))]) (.cond (.t 14) (.seq (.reg false [o 17 (.mv (.t 6)), o 4 (.mv (.t 17)), o 5 (.mv (.c (.bool true)))]) .ret) (.seq (.reg false [o 19 (.bin .eql (.t 13) (.c (.str []))), o 18 (.mv (.t 19))]) (.cond (.t 18) (.seq (.reg false [o 20 (.mv (.t 6)), o 4 (.mv (.t 20)), o 5 (.mv (.c (.bool false)))]) .ret) .skip)))))) (.seq (.reg false [o 21 (.mv (.t 6)), o 22 (.call 24 [.t 21]), o 6 (.mv (.t 22))]) (.goto 0)))))
theorem comp21 : Compiled Try.prog 21 2 c21 [.t 4, .t 5] := .fn Try.func21 (by kernel_rfl) (by kernel_rfl)
def c22 : MC := .seq (.reg false [o 1 (.box 2 (.t 0)), o 2 (.mv (.c (.bool false)))]) (.seq (.reg false [o 3 (.fa 0 (.t 1)), o 4 (.ld none (.t 3)), o 5 (.bin .neq (.t 4) (.c (.str []))), o 2 (.mv (.t 5))]) .ret)
theorem comp22 : Compiled Try.prog 22 1 c22 [.t 2] := .fn Try.func22 (by kernel_rfl) (by kernel_rfl)
def c23 : MC := .seq (.reg false [o 2 (.mv (.c .nils))]) (.seq (.reg false [o 4 (.mv (.t 0)), o 5 (.len 1 (.t 4)), o 6 (.mks 2 24 (.agg [.str [], .int .i64 0]) (.t 5) (.t 5)), o 3 (.mv (.t 6))]) (.seq (.reg false [o 7 (.mv (.t 3)), o 8 (.mv (.t 0)), o 9 (.cpy 2 (.t 7) (.t 8))]) (.seq (.reg false [o 10 (.mv (.t 3)), o 2 (.mv (.t 10))]) .ret)))
theorem comp23 : Compiled Try.prog 23 1 c23 [.t 2] := .fn Try.func23 (by kernel_rfl) (by kernel_rfl)
def c24 : MC := .seq (.reg false [o 2 (.mv (.c (.int .i64 0)))]) (.seq (.reg false [o 3 (.mv (.t 0)), o 4 (.bin .add (.t 3) (.c (.int .i64 1))), o 5 (.bin .rem (.t 4) (.c (.int .i64 128))), o 2 (.mv (.t 5))]) .ret)
theorem comp24 : Compiled Try.prog 24 1 c24 [.t 2] := .fn Try.func24 (by kernel_rfl) (by kernel_rfl)
def c25 : MC := .seq (.reg false [o 4 (.mv (.c (.int .i64 0)))]) (.seq (.reg false [o 5 (.mv (.t 1)), o 6 (.mv (.t 0)), o 7 (.bin .sub (.t 5) (.t 6)), o 8 (.bin .add (.t 7) (.c (.int .i64 128))), o 9 (.bin .rem (.t 8) (.c (.int .i64 128))), o 4 (.mv (.t 9))]) .ret)
theorem comp25 : Compiled Try.prog 25 2 c25 [.t 4] := .fn Try.func25 (by kernel_rfl) (by kernel_rfl)
def c26 : MC := .seq (.reg false [o 2 (.mv (.c (.int .i64 0)))]) (.seq (.reg false [o 3 (.mv (.t 0)), o 4 (.call 28 [.t 3, .c (.int .i64 128)]), o 2 (.mv (.t 4))]) .ret)
theorem comp26 : Compiled Try.prog 26 1 c26 [.t 2] := .fn Try.func26 (by kernel_rfl) (by kernel_rfl)
def c27 : MC := .seq (.reg false [o 3 (.mv (.t 0)), o 4 (.len 1 (.t 3)), o 2 (.mv (.t 4))]) (.reg false [o 5 (.mv (.t 0)), o 6 (.mv (.t 2)), o 7 (.mv (.t 2)), o 8 (.cvi .u64 (.t 7)), o 9 (.call 30 [.t 8]), o 10 (.call 29 [.t 5, .c (.int .i64 0), .t 6, .t 9])])
theorem comp27 : Compiled Try.prog 27 1 c27 [] := .fn Try.func27 (by kernel_rfl) (by kernel_rfl)
def c28 : MC := .seq (.reg false [o 4 (.mv (.c (.int .i64 0)))]) (.seq (.seq (.reg false [o 5 (.mv (.t 1)), o 6 (.bin .lss (.t 5) (.c (.int .i64 1)))]) (.cond (.t 6) (.seq (.reg false [o 4 (.mv (.c (.int .i64 0)))]) .ret) .skip)) (.seq (.reg false [o 7 (.mv (.t 0)), o 8 (.call 31 [.t 7]), o 9 (.mv (.t 1)), o 10 (.cvi .u64 (.t 9)), o 11 (.bin .rem (.t 8) (.t 10)), o 12 (.cvi .i64 (.t 11)), o 4 (.mv (.t 12))]) .ret))
theorem comp28 : Compiled Try.prog 28 2 c28 [.t 4] := .fn Try.func28 (by kernel_rfl) (by kernel_rfl)
def c31 : MC := .seq (.reg false [o 2 (.mv (.c (.int .u64 0)))]) (.seq (.reg false [o 3 (.mv (.c (.int .u64 14695981039346656037)))]) (.seq (.seq (.reg false [o 5 (.mv (.t 0)), o 6 (.len 0 (.t 5)), o 7 (.mv (.c (.int .i64 0)))]) (.block 0 (.loop (.seq (.reg false [o 8 (.bin .lss (.t 7) (.t 6))]) (.seq (.cond (.t 8) .skip (.exit 0)) (.seq (.block 1 (.seq (.reg false [o 9 (.mv (.t 7)), o 4 (.mv (.t 9))]) (.reg false [o 10 (.mv (.t 3)), o 11 (.mv (.t 0)), o 12 (.mv (.t 4)), o 13 (.ixS (.t 11) (.t 12)), o 14 (.cvi .u64 (.t 13)), o 15 (.bin .xor (.t 10) (.t 14)), o 16 (.bin .mul (.t 15) (.c (.int .u64 1099511628211))), o 3 (.mv (.t 16))]))) (.reg false [o 17 (.bin .add (.t 7) (.c (.int .i64 1))), o 7 (.mv (.t 17))]))))))) (.seq (.reg false [o 18 (.mv (.t 3)), o 2 (.mv (.t 18))]) .ret)))
theorem comp31 : Compiled Try.prog 31 1 c31 [.t 2] := .fn Try.func31 (by kernel_rfl) (by kernel_rfl)
theorem mixed : Try.prog.follows .mixedOrders = true := by kernel_rfl
abbrev G0 : Nat → Option (List V) := (fun _ => none)

end Go.Proofs.Ytgilodbgleogmaa

/- The library's contracts that are used, laid at this program by the kit's own tool (lay-shelf, lay-plain). -/
namespace Go.Proofs
open Go.Shelf
def Try.lays190_ren : Go.Shelf.Ren := ⟨fun | 190 => 27 | 125 => 30 | 258 => 29 | 128 => 41 | 129 => 42 | 302 => 32 | 303 => 33 | 304 => 34 | 305 => 35 | 306 => 36 | 307 => 37 | 308 => 38 | 309 => 39 | 310 => 40 | 333 => 43 | 329 => 44 | 330 => 45 | 334 => 46 | 335 => 47 | 336 => 48 | 344 => 49 | n => n, fun | 31 => 43 | 9 => 9 | 3 => 3 | 46 => 60 | 0 => 0 | 51 => 72 | 53 => 61 | 4 => 4 | 183 => 65 | 182 => 64 | 131 => 34 | 5 => 5 | 218 => 74 | 222 => 78 | 228 => 80 | 229 => 81 | n => n, fun | n => n⟩
theorem Try.lays190 : Go.Proofs.Lays.n190 Try.prog Try.lays190_ren := {
  mixed := by kernel_rfl
  f125 := Try.func30.trans (congrArg some (by kernel_rfl))
  f128 := Try.func41.trans (congrArg some (by kernel_rfl))
  f129 := Try.func42.trans (congrArg some (by kernel_rfl))
  f190 := Try.func27.trans (congrArg some (by kernel_rfl))
  f258 := Try.func29.trans (congrArg some (by kernel_rfl))
  f302 := Try.func32.trans (congrArg some (by kernel_rfl))
  f303 := Try.func33.trans (congrArg some (by kernel_rfl))
  f304 := Try.func34.trans (congrArg some (by kernel_rfl))
  f305 := Try.func35.trans (congrArg some (by kernel_rfl))
  f306 := Try.func36.trans (congrArg some (by kernel_rfl))
  f307 := Try.func37.trans (congrArg some (by kernel_rfl))
  f308 := Try.func38.trans (congrArg some (by kernel_rfl))
  f309 := Try.func39.trans (congrArg some (by kernel_rfl))
  f310 := Try.func40.trans (congrArg some (by kernel_rfl))
  f329 := Try.func44.trans (congrArg some (by kernel_rfl))
  f330 := Try.func45.trans (congrArg some (by kernel_rfl))
  f333 := Try.func43.trans (congrArg some (by kernel_rfl))
  f334 := Try.func46.trans (congrArg some (by kernel_rfl))
  f335 := Try.func47.trans (congrArg some (by kernel_rfl))
  f336 := Try.func48.trans (congrArg some (by kernel_rfl))
  f344 := Try.func49.trans (congrArg some (by kernel_rfl))
  t0 := Try.underlying0
  a0 := Try.isAgg0
  z0 := Try.sizeOf0
  v0 := Try.zeroValue0
  t3 := Try.underlying3
  a3 := Try.isAgg3
  z3 := Try.sizeOf3
  v3 := Try.zeroValue3
  t4 := Try.underlying4
  a4 := Try.isAgg4
  z4 := Try.sizeOf4
  v4 := Try.zeroValue4
  t5 := Try.underlying5
  a5 := Try.isAgg5
  z5 := Try.sizeOf5
  v5 := Try.zeroValue5
  t9 := Try.underlying9
  a9 := Try.isAgg9
  z9 := Try.sizeOf9
  v9 := Try.zeroValue9
  t31 := Try.underlying43
  a31 := Try.isAgg43
  z31 := Try.sizeOf43
  v31 := Try.zeroValue43
  t46 := Try.underlying60
  a46 := Try.isAgg60
  z46 := Try.sizeOf60
  v46 := Try.zeroValue60
  t51 := Try.underlying72
  a51 := Try.isAgg72
  z51 := Try.sizeOf72
  v51 := Try.zeroValue72
  t53 := Try.underlying61
  a53 := Try.isAgg61
  z53 := Try.sizeOf61
  v53 := Try.zeroValue61
  t131 := Try.underlying34
  a131 := Try.isAgg34
  z131 := Try.sizeOf34
  v131 := Try.zeroValue34
  t182 := Try.underlying64
  a182 := Try.isAgg64
  z182 := Try.sizeOf64
  v182 := Try.zeroValue64
  t183 := Try.underlying65
  a183 := Try.isAgg65
  z183 := Try.sizeOf65
  v183 := Try.zeroValue65
  t218 := Try.underlying74
  a218 := Try.isAgg74
  z218 := Try.sizeOf74
  v218 := Try.zeroValue74
  t222 := Try.underlying78
  a222 := Try.isAgg78
  z222 := Try.sizeOf78
  v222 := Try.zeroValue78
  t228 := Try.underlying80
  a228 := Try.isAgg80
  z228 := Try.sizeOf80
  v228 := Try.zeroValue80
  t229 := Try.underlying81
  a229 := Try.isAgg81
  z229 := Try.sizeOf81
  v229 := Try.zeroValue81 }
open Go.Sort Go.RowKit in
theorem Try.slices_Sort_string (blk off cap : Nat) (ss : List (List UInt8)) (w : World) (hH : Holds encStr w blk off ss.toArray) (hblk : blk < w.heap.size) (hsz : ss.length < 4611686018427387904) :
    Calls Try.prog 27 #[.slice (some ⟨blk, off, none⟩) ss.length cap] w fun e w' =>
      e = .returned (.tuple #[]) ∧ ∃ n os, w' = grow (putRow encStr (Sort.ahead w n) blk off (ss.mergeSort fun x y => decide (x ≤ y)).toArray) os := Any.slices_Sort_string Try.lays190 blk off cap ss w hH hblk hsz
open Go.RowKit Go.Sort in
/-- .. and plain. (LAID: no walk: one application.) -/
theorem Try.slices_Sort_string_none (p : Option Addr) (cap : Nat) (w : World) :
    Calls Try.prog 27 #[.slice p 0 cap] w fun e w' => e = .returned (.tuple #[]) ∧ w' = w := Any.slices_Sort_string_none Try.lays190 p cap w
end Go.Proofs

/- Table (chapter 13): what is sought, put, deleted: the plain law. -/
namespace Go.Proofs.Ytgilodbgleogmaa
open Go Go.MW
set_option linter.unusedVariables false
set_option linter.unusedSimpArgs false

def hstep (n : Int) (c : UInt8) : Int := IntKind.u64.wrap (bitOp .xor .u64 n c.toNat * 1099511628211)
def hash (k : List UInt8) : Int := k.foldl hstep 14695981039346656037
def home (k : List UInt8) : Nat := (hash k % 128).toNat
theorem home_lt (k : List UInt8) : home k < 128 := by unfold home; omega

abbrev Pc := List UInt8 × Int
def e0 : Pc := ([], 0)
def keyAt (t : List Pc) (i : Nat) : List UInt8 := (t.getD i e0).1
def nxt (i : Nat) : Nat := (i + 1) % 128
def far (a b : Nat) : Nat := (b + 128 - a) % 128

/-- The place of a key, or the first empty one on its way. -/
def seekF (t : List Pc) (k : List UInt8) : Nat → Nat → Option (Nat × Bool)
  | 0, _ => none
  | n + 1, i => if keyAt t i = k then some (i, true) else if keyAt t i = [] then some (i, false) else seekF t k n (nxt i)

def full (t : List Pc) : Nat := t.countP fun p => decide (p.1 ≠ [])
def keyOK (k : List UInt8) : Bool := decide (1 ≤ k.length ∧ k.length ≤ 16)

theorem getD_set {t : List Pc} {p i : Nat} {x : Pc} (hp : p < t.length) : (t.set p x).getD i e0 = if i = p then x else t.getD i e0 := by
  simp only [List.getD_eq_getElem?_getD, List.getElem?_set]
  by_cases h : p = i
  · subst h; simp [hp]
  · rw [if_neg h, if_neg (fun e => h e.symm)]

theorem keyAt_set {t : List Pc} {p i : Nat} {x : Pc} (hp : p < t.length) : keyAt (t.set p x) i = if i = p then x.1 else keyAt t i := by
  unfold keyAt
  rw [getD_set hp]
  split <;> rfl

theorem full_set {t : List Pc} {p : Nat} {x : Pc} (hp : p < t.length) : full (t.set p x) + (if keyAt t p = [] then 0 else 1) = full t + (if x.1 = [] then 0 else 1) := by
  unfold full keyAt
  rw [List.countP_set hp, List.getD_eq_getElem?_getD, List.getElem?_eq_getElem hp]
  have h1 : (if (decide (t[p].1 ≠ [])) = true then 1 else 0) ≤ t.countP fun p => decide (p.1 ≠ []) := by
    split
    · rename_i h
      exact List.countP_pos_iff.2 ⟨_, List.getElem_mem hp, h⟩
    · omega
  simp only [Option.getD_some, decide_eq_true_eq, ne_eq] at h1 ⊢
  generalize (t.countP fun p => decide ¬p.1 = []) = c at h1 ⊢
  by_cases ha : t[p].1 = [] <;> by_cases hb : x.1 = [] <;> simp [ha, hb] at h1 ⊢ <;> omega

theorem full_all {t : List Pc} (hl : t.length = 128) (h : ∀ i, i < 128 → keyAt t i ≠ []) : full t = 128 := by
  unfold full
  rw [← hl, List.countP_eq_length]
  intro a ha
  obtain ⟨i, hi, rfl⟩ := List.getElem_of_mem ha
  have := h i (by omega)
  unfold keyAt at this
  rw [List.getD_eq_getElem?_getD, List.getElem?_eq_getElem hi] at this
  simpa using this

theorem has_empty {t : List Pc} (hl : t.length = 128) (h : full t ≤ 96) : ∃ E, E < 128 ∧ keyAt t E = [] := by
  apply Classical.byContradiction
  intro hn
  have := full_all hl fun i hi e => hn ⟨i, hi, e⟩
  omega

theorem seekF_none {t : List Pc} {k : List UInt8} : ∀ {n i : Nat}, i < 128 → seekF t k n i = none → ∀ d, d < n → keyAt t ((i + d) % 128) ≠ []
  | 0, i, hi, h, d, hd => by omega
  | n + 1, i, hi, h, d, hd => by
    unfold seekF at h
    split at h
    · cases h
    · split at h
      · cases h
      · rename_i h1 h2
        cases d with
        | zero => rw [Nat.add_zero, Nat.mod_eq_of_lt hi]; exact h2
        | succ d =>
          have := seekF_none (Nat.mod_lt _ (by decide)) h d (by omega)
          rw [show (i + (d + 1)) % 128 = (nxt i + d) % 128 by unfold nxt; omega]
          exact this

theorem seek_some {t : List Pc} (hl : t.length = 128) (h : full t ≤ 96) (k : List UInt8) : ∃ r, seekF t k 128 (home k) = some r := by
  rcases hs : seekF t k 128 (home k) with _ | r
  · obtain ⟨E, hE, h0⟩ := has_empty hl h
    have hh := home_lt k
    have := seekF_none hh hs ((E + 128 - home k) % 128) (by omega)
    rw [show (home k + (E + 128 - home k) % 128) % 128 = E by omega] at this
    exact absurd h0 this
  · exact ⟨r, rfl⟩

theorem seekF_spec {t : List Pc} {k : List UInt8} : ∀ {n i p : Nat} {b : Bool}, i < 128 → seekF t k n i = some (p, b) →
    ∃ d, d < n ∧ p = (i + d) % 128 ∧ (∀ e, e < d → keyAt t ((i + e) % 128) ≠ k ∧ keyAt t ((i + e) % 128) ≠ []) ∧ (b = true → keyAt t p = k) ∧ (b = false → keyAt t p = [] ∧ k ≠ [])
  | 0, i, p, b, hi, h => by cases h
  | n + 1, i, p, b, hi, h => by
    unfold seekF at h
    split at h
    · rename_i h1
      cases h
      exact ⟨0, by omega, by rw [Nat.add_zero, Nat.mod_eq_of_lt hi], fun e he => by omega, fun _ => h1, fun h => by cases h⟩
    · split at h
      · rename_i h1 h2
        cases h
        exact ⟨0, by omega, by rw [Nat.add_zero, Nat.mod_eq_of_lt hi], fun e he => by omega, fun h => (by cases h), fun _ => ⟨h2, fun e => h1 (by rw [h2, e])⟩⟩
      · rename_i h1 h2
        obtain ⟨d, g1, g2, g3, g4⟩ := seekF_spec (Nat.mod_lt _ (by decide)) h
        refine ⟨d + 1, by omega, by rw [g2]; omega, fun e he => ?_, g4⟩
        cases e with
        | zero => rw [Nat.add_zero, Nat.mod_eq_of_lt hi]; exact ⟨h1, h2⟩
        | succ e =>
          have := g3 e (by omega)
          rwa [show ((i + 1) % 128 + e) % 128 = (i + (e + 1)) % 128 by omega] at this

theorem seekF_hit {t : List Pc} {k : List UInt8} : ∀ {n i d : Nat}, i < 128 → d < n → (∀ e, e < d → keyAt t ((i + e) % 128) ≠ k ∧ keyAt t ((i + e) % 128) ≠ []) → keyAt t ((i + d) % 128) = k →
    seekF t k n i = some ((i + d) % 128, true)
  | 0, i, d, hi, hd, h, hk => by omega
  | n + 1, i, 0, hi, hd, h, hk => by
    unfold seekF
    rw [Nat.add_zero, Nat.mod_eq_of_lt hi] at hk ⊢
    rw [if_pos hk]
  | n + 1, i, d + 1, hi, hd, h, hk => by
    unfold seekF
    have := h 0 (by omega)
    rw [Nat.add_zero, Nat.mod_eq_of_lt hi] at this
    rw [if_neg this.1, if_neg this.2]
    have e1 : ∀ e, (nxt i + e) % 128 = (i + (e + 1)) % 128 := fun e => by unfold nxt; omega
    rw [← e1 d]
    exact seekF_hit (Nat.mod_lt _ (by decide)) (by omega) (fun e he => by rw [e1]; exact h (e + 1) (by omega)) (by rw [e1]; exact hk)

/-- A table that may be. -/
structure WF (t : List Pc) : Prop where
  len : t.length = 128
  cnt : full t ≤ 96
  val : ∀ i, i < 128 → keyAt t i = [] → t.getD i e0 = e0
  key : ∀ i, i < 128 → (keyAt t i).length ≤ 16
  inj : ∀ i j, i < 128 → j < 128 → keyAt t i ≠ [] → keyAt t i = keyAt t j → i = j
  path : ∀ i, i < 128 → keyAt t i ≠ [] → ∀ d, d ≤ far (home (keyAt t i)) i → keyAt t ((home (keyAt t i) + d) % 128) ≠ []

theorem WF.seek_at {t : List Pc} (h : WF t) {i : Nat} (hi : i < 128) (hk : keyAt t i ≠ []) : seekF t (keyAt t i) 128 (home (keyAt t i)) = some (i, true) := by
  have hh := home_lt (keyAt t i)
  have e : (home (keyAt t i) + far (home (keyAt t i)) i) % 128 = i := by unfold far; omega
  have := seekF_hit (t := t) (k := keyAt t i) (n := 128) (d := far (home (keyAt t i)) i) hh (by unfold far; omega) (fun d hd => ⟨fun he => ?_, h.path i hi hk d (by omega)⟩) (by rw [e])
  · rw [this, e]
  · have hne := h.path i hi hk d (by omega)
    have := h.inj _ i (Nat.mod_lt _ (by decide)) hi hne he
    unfold far at hd
    omega

theorem WF.seek {t : List Pc} (h : WF t) (k : List UInt8) : ∃ p b, seekF t k 128 (home k) = some (p, b) ∧ p < 128 := by
  obtain ⟨⟨p, b⟩, hr⟩ := seek_some h.len h.cnt k
  obtain ⟨d, _, rfl, _⟩ := seekF_spec (home_lt k) hr
  exact ⟨_, b, hr, Nat.mod_lt _ (by decide)⟩

/-- What a key has. -/
def look (t : List Pc) (k : List UInt8) : Option Int :=
  if k = [] then none else match seekF t k 128 (home k) with
    | some (p, true) => some (t.getD p e0).2
    | _ => none

theorem look_iff {t : List Pc} (h : WF t) {k : List UInt8} {v : Int} : look t k = some v ↔ k ≠ [] ∧ ∃ i, i < 128 ∧ t.getD i e0 = (k, v) := by
  unfold look
  by_cases hk : k = []
  · simp [hk]
  · rw [if_neg hk]
    constructor
    · intro hs
      obtain ⟨p, b, hr, hp⟩ := h.seek k
      rw [hr] at hs
      cases b with
      | false => simp at hs
      | true =>
        simp only [Option.some.injEq] at hs
        obtain ⟨d, g1, g2, g3, g4, _⟩ := seekF_spec (home_lt k) hr
        exact ⟨hk, p, hp, Prod.ext (g4 rfl) hs⟩
    · rintro ⟨_, i, hi, he⟩
      have hki : keyAt t i = k := by unfold keyAt; rw [he]
      have := h.seek_at hi (by rw [hki]; exact hk)
      rw [hki] at this
      rw [this]
      simp only [Option.some.injEq]
      rw [he]

theorem look_none {t : List Pc} (h : WF t) {k : List UInt8} : look t k = none ↔ ∀ i, i < 128 → k ≠ [] → keyAt t i ≠ k := by
  constructor
  · intro hn i hi hk he
    have : look t k = some (t.getD i e0).2 := (look_iff h).2 ⟨hk, i, hi, Prod.ext he rfl⟩
    rw [hn] at this
    cases this
  · intro hn
    rcases hl : look t k with _ | v
    · rfl
    · obtain ⟨hk, i, hi, he⟩ := (look_iff h).1 hl
      exact absurd (by unfold keyAt; rw [he]) (hn i hi hk)

theorem look_ext {t t' : List Pc} {k k' : List UInt8} (h : ∀ v, look t k = some v ↔ look t' k' = some v) : look t k = look t' k' := by
  rcases h1 : look t k with _ | v
  · rcases h2 : look t' k' with _ | v
    · rfl
    · rw [(h v).2 h2] at h1; cases h1
  · exact ((h v).1 h1).symm

/-- The seat of a key that is not there. -/
theorem seek_miss {t : List Pc} (h : WF t) {k : List UInt8} (hk : k ≠ []) (hn : look t k = none) : ∃ p d, seekF t k 128 (home k) = some (p, false) ∧ p < 128 ∧ keyAt t p = [] ∧ d < 128 ∧ p = (home k + d) % 128 ∧ ∀ e, e < d → keyAt t ((home k + e) % 128) ≠ [] := by
  obtain ⟨p, b, hr, hp⟩ := h.seek k
  obtain ⟨d, g1, g2, g3, g4, g5⟩ := seekF_spec (home_lt k) hr
  cases b with
  | true => exact absurd (g4 rfl) ((look_none h).1 hn p hp hk)
  | false => exact ⟨p, d, hr, hp, (g5 rfl).1, g1, g2, fun e he => (g3 e he).2⟩

theorem seek_there {t : List Pc} (h : WF t) {k : List UInt8} {v : Int} (hs : look t k = some v) : ∃ p, seekF t k 128 (home k) = some (p, true) ∧ p < 128 ∧ t.getD p e0 = (k, v) := by
  obtain ⟨hk, p, hp, he⟩ := (look_iff h).1 hs
  have hki : keyAt t p = k := by unfold keyAt; rw [he]
  have := h.seek_at hp (by rw [hki]; exact hk)
  rw [hki] at this
  exact ⟨p, this, hp, he⟩

theorem keyOK_iff {k : List UInt8} : keyOK k = true ↔ k ≠ [] ∧ k.length ≤ 16 := by
  unfold keyOK
  rw [decide_eq_true_eq, ← List.length_pos_iff]
  omega

/-- A key that is there is given another number. -/
theorem put_there {t : List Pc} (h : WF t) {k : List UInt8} {v : Int} {p : Nat} (hk : k ≠ []) (hp : p < 128) (he : keyAt t p = k) (x : Int) :
    WF (t.set p (k, x)) ∧ full (t.set p (k, x)) = full t ∧ ∀ k', look (t.set p (k, x)) k' = if k' = k then some x else look t k' := by
  have hpl : p < t.length := by rw [h.len]; exact hp
  have hke : ∀ i, keyAt (t.set p (k, x)) i = keyAt t i := fun i => by
    rw [keyAt_set hpl]
    split
    · rename_i e; rw [e, he]
    · rfl
  have hc : full (t.set p (k, x)) = full t := by
    have := full_set (x := (k, x)) hpl
    simp only [he, if_neg hk] at this
    omega
  have hw : WF (t.set p (k, x)) := by
    refine ⟨by rw [List.length_set, h.len], by rw [hc]; exact h.cnt, fun i hi h0 => ?_, fun i hi => by rw [hke]; exact h.key i hi, fun i j hi hj => by rw [hke, hke]; exact h.inj i j hi hj, fun i hi => ?_⟩
    · rw [hke] at h0
      rw [getD_set hpl]
      split
      · rename_i e; subst e; rw [he] at h0; exact absurd h0 hk
      · exact h.val i hi h0
    · simp only [hke]; exact h.path i hi
  refine ⟨hw, hc, fun k' => ?_⟩
  by_cases hkk : k' = k
  · subst hkk
    rw [if_pos rfl]
    exact (look_iff hw).2 ⟨hk, p, hp, by rw [getD_set hpl, if_pos rfl]⟩
  · rw [if_neg hkk]
    refine look_ext fun v => ?_
    rw [look_iff hw, look_iff h]
    refine and_congr_right fun hk' => exists_congr fun i => and_congr_right fun hi => ?_
    rw [getD_set hpl]
    split
    · rename_i e
      subst e
      constructor
      · intro h1; exact absurd (by have := congrArg Prod.fst h1; exact this.symm) hkk
      · intro h1; exact absurd (by unfold keyAt at he; rw [h1] at he; exact he) hkk
    · exact Iff.rfl

/-- A new key. -/
theorem put_new {t : List Pc} (h : WF t) {k : List UInt8} (hk : keyOK k = true) (hn : look t k = none) (hf : full t < 96) {p : Nat} (hr : seekF t k 128 (home k) = some (p, false)) (x : Int) :
    WF (t.set p (k, x)) ∧ full (t.set p (k, x)) = full t + 1 ∧ ∀ k', look (t.set p (k, x)) k' = if k' = k then some x else look t k' := by
  obtain ⟨hk0, hk1⟩ := keyOK_iff.1 hk
  obtain ⟨p', d, hr', hp, h0, hd, hpd, hway⟩ := seek_miss h hk0 hn
  obtain rfl : p = p' := by rw [hr] at hr'; cases hr'; rfl
  have hpl : p < t.length := by rw [h.len]; exact hp
  have hke : ∀ i, keyAt (t.set p (k, x)) i = if i = p then k else keyAt t i := fun i => keyAt_set hpl
  have hc : full (t.set p (k, x)) = full t + 1 := by
    have := full_set (x := (k, x)) hpl
    simp only [h0, if_true, if_neg hk0] at this
    omega
  have hno := (look_none h).1 hn
  have hw : WF (t.set p (k, x)) := by
    refine ⟨by rw [List.length_set, h.len], by rw [hc]; omega, fun i hi h0' => ?_, fun i hi => ?_, fun i j hi hj => ?_, fun i hi => ?_⟩
    · rw [hke] at h0'
      rw [getD_set hpl]
      split at h0'
      · exact absurd h0' hk0
      · rename_i e; rw [if_neg e]; exact h.val i hi h0'
    · rw [hke]; split
      · exact hk1
      · exact h.key i hi
    · rw [hke, hke]
      by_cases h1 : i = p <;> by_cases h2 : j = p
      · intros; omega
      · rw [if_pos h1, if_neg h2]; intro _ e; exact absurd e.symm (hno j hj hk0)
      · rw [if_neg h1, if_pos h2]; intro _ e; exact absurd e (hno i hi hk0)
      · rw [if_neg h1, if_neg h2]; exact h.inj i j hi hj
    · intro hki d' hd'
      rw [hke] at hki hd'
      have hki' := hki
      rw [hke i, hke]
      by_cases h1 : i = p
      · simp only [if_pos h1] at hki hd' ⊢
        have hh := home_lt k
        have : d' ≤ d := by unfold far at hd'; omega
        split
        · exact hk0
        · rename_i h2
          exact hway d' (by
            rcases Nat.lt_or_ge d' d with h3 | h3
            · exact h3
            · exact absurd (by rw [hpd]; congr 2; omega) h2)
      · simp only [if_neg h1] at hki hd' ⊢
        have := h.path i hi hki d' hd'
        split
        · exact hk0
        · exact this
  refine ⟨hw, hc, fun k' => ?_⟩
  by_cases hkk : k' = k
  · subst hkk
    rw [if_pos rfl]
    exact (look_iff hw).2 ⟨hk0, p, hp, by rw [getD_set hpl, if_pos rfl]⟩
  · rw [if_neg hkk]
    refine look_ext fun v => ?_
    rw [look_iff hw, look_iff h]
    refine and_congr_right fun hk' => exists_congr fun i => and_congr_right fun hi => ?_
    rw [getD_set hpl]
    split
    · rename_i e
      subst e
      constructor
      · intro h1; exact absurd (by have := congrArg Prod.fst h1; exact this.symm) hkk
      · intro h1; unfold keyAt at h0; rw [h1] at h0; exact absurd h0 hk'
    · exact Iff.rfl

end Go.Proofs.Ytgilodbgleogmaa

/- Table (chapter 13): deletion, the plain law. -/
namespace Go.Proofs.Ytgilodbgleogmaa
open Go Go.MW
set_option linter.unusedVariables false
set_option linter.unusedSimpArgs false

/-- Those behind a hole that may move up. -/
def delF : Nat → List Pc → Nat → Nat → Option (List Pc × Nat)
  | 0, _, _, _ => none
  | n + 1, o, h, i => if keyAt o i = [] then some (o, h) else
    if far (home (keyAt o i)) i ≥ far h i then delF n (o.set h (o.getD i e0)) i (nxt i) else delF n o h (nxt i)

/-- Places told from an empty one on. -/
def pl (E c : Nat) : Nat := (E + c) % 128
theorem pl_lt (E c : Nat) : pl E c < 128 := Nat.mod_lt _ (by decide)
theorem pl_inj {E a b : Nat} (ha : a < 128) (hb : b < 128) (h : pl E a = pl E b) : a = b := by unfold pl at h; omega
theorem pl_of {E i : Nat} (hE : E < 128) (hi : i < 128) : ∃ c, c < 128 ∧ pl E c = i := ⟨far E i, by unfold far; omega, by unfold far pl; omega⟩

/-- Where a key's home is. -/
def hm (E : Nat) (k : List UInt8) : Nat := far E (home k)
theorem hm_lt (E : Nat) (k : List UInt8) : hm E k < 128 := Nat.mod_lt _ (by decide)

/-- From an empty place on, all lie in a row. -/
theorem lin_of_path {t : List Pc} {E : Nat} (hE : E < 128) (h0 : keyAt t E = [])
    (hp : ∀ i, i < 128 → keyAt t i ≠ [] → ∀ d, d ≤ far (home (keyAt t i)) i → keyAt t ((home (keyAt t i) + d) % 128) ≠ []) {c : Nat} (hc : c < 128) (hk : keyAt t (pl E c) ≠ []) :
    hm E (keyAt t (pl E c)) ≤ c ∧ ∀ x, hm E (keyAt t (pl E c)) ≤ x → x ≤ c → keyAt t (pl E x) ≠ [] := by
  have h1 := hp _ (pl_lt E c) hk
  have hh := home_lt (keyAt t (pl E c))
  unfold hm
  generalize home (keyAt t (pl E c)) = g at h1 hh ⊢
  have hle : far E g ≤ c := by
    rcases Nat.lt_or_ge c (far E g) with h2 | h2
    · have := h1 ((E + 128 - g) % 128) (by unfold far pl at *; omega)
      rw [show (g + (E + 128 - g) % 128) % 128 = E by omega] at this
      exact absurd h0 this
    · exact h2
  refine ⟨hle, fun x hx hxc => ?_⟩
  have := h1 (x - far E g) (by unfold far pl at *; omega)
  rwa [show (g + (x - far E g)) % 128 = pl E x by unfold far pl at *; omega] at this

theorem path_of_lin {t : List Pc} {E : Nat} (hE : E < 128)
    (hl : ∀ c, c < 128 → keyAt t (pl E c) ≠ [] → hm E (keyAt t (pl E c)) ≤ c ∧ ∀ x, hm E (keyAt t (pl E c)) ≤ x → x ≤ c → keyAt t (pl E x) ≠ []) :
    ∀ i, i < 128 → keyAt t i ≠ [] → ∀ d, d ≤ far (home (keyAt t i)) i → keyAt t ((home (keyAt t i) + d) % 128) ≠ [] := by
  intro i hi hk d hd
  obtain ⟨c, hc, rfl⟩ := pl_of hE hi
  obtain ⟨h1, h2⟩ := hl c hc hk
  have hh := home_lt (keyAt t (pl E c))
  unfold hm at h1 h2
  generalize home (keyAt t (pl E c)) = g at h1 h2 hd hh ⊢
  have := h2 (far E g + d) (by omega) (by unfold far pl at *; omega)
  rwa [show pl E (far E g + d) = (g + d) % 128 by unfold far pl at *; omega] at this

/-- A table with a hole at place a; those ahead of b lie well, the others may miss the hole. -/
structure Gap (E : Nat) (V : List Pc) (a b : Nat) : Prop where
  len : V.length = 128
  val : ∀ i, i < 128 → keyAt V i = [] → V.getD i e0 = e0
  key : ∀ i, i < 128 → (keyAt V i).length ≤ 16
  inj : ∀ i j, i < 128 → j < 128 → keyAt V i ≠ [] → keyAt V i = keyAt V j → i = j
  e : keyAt V E = []
  a0 : 1 ≤ a ∧ a < b ∧ b ≤ 128
  hole : keyAt V (pl E a) = []
  lo : ∀ c, c < 128 → keyAt V (pl E c) ≠ [] → hm E (keyAt V (pl E c)) ≤ c
  near : ∀ c, c < b → keyAt V (pl E c) ≠ [] → ∀ x, hm E (keyAt V (pl E c)) ≤ x → x ≤ c → keyAt V (pl E x) ≠ []
  away : ∀ c, b ≤ c → c < 128 → keyAt V (pl E c) ≠ [] → ∀ x, hm E (keyAt V (pl E c)) ≤ x → x ≤ c → x = a ∨ keyAt V (pl E x) ≠ []

/-- The same entries. -/
def Alike (V W : List Pc) : Prop := full V = full W ∧ ∀ k v, k ≠ [] → ((∃ i, i < 128 ∧ V.getD i e0 = (k, v)) ↔ ∃ i, i < 128 ∧ W.getD i e0 = (k, v))

theorem pl_E {E : Nat} (hE : E < 128) : pl E 128 = E := by unfold pl; omega
theorem pl_0 {E : Nat} (hE : E < 128) : pl E 0 = E := by unfold pl; omega
theorem nxt_pl (E b : Nat) : nxt (pl E b) = pl E (b + 1) := by unfold nxt pl; omega

theorem Gap.done {E : Nat} {V : List Pc} {a b : Nat} (hE : E < 128) (h : Gap E V a b) (hb : keyAt V (pl E b) = []) :
    ∀ i, i < 128 → keyAt V i ≠ [] → ∀ d, d ≤ far (home (keyAt V i)) i → keyAt V ((home (keyAt V i) + d) % 128) ≠ [] := by
  refine path_of_lin hE fun c hc hk => ⟨h.lo c hc hk, fun x h1 h2 => ?_⟩
  have ha := h.a0
  rcases Nat.lt_or_ge c b with h3 | h3
  · exact h.near c h3 hk x h1 h2
  · rcases h.away c h3 hc hk x h1 h2 with h4 | h4
    · have hcb : c ≠ b := fun e => by subst e; exact hk hb
      rcases h.away c h3 hc hk b (by omega) h3 with h5 | h5
      · omega
      · exact absurd hb h5
    · exact h4

theorem set_same {t : List Pc} {p : Nat} {x : Pc} (hp : p < t.length) (h : t.getD p e0 = x) : t.set p x = t := by
  refine List.ext_getElem (by simp) fun i h1 h2 => ?_
  rw [List.getElem_set]
  split
  · rename_i e
    subst e
    rw [List.getD_eq_getElem?_getD, List.getElem?_eq_getElem hp] at h
    exact h.symm
  · rfl

/-- One that may move up is moved. -/
theorem Gap.move {E : Nat} {V : List Pc} {a b : Nat} (hE : E < 128) (h : Gap E V a b) (hb : b < 128) (hk : keyAt V (pl E b) ≠ []) (hm' : hm E (keyAt V (pl E b)) ≤ a) :
    Gap E ((V.set (pl E a) (V.getD (pl E b) e0)).set (pl E b) e0) b (b + 1) ∧ Alike ((V.set (pl E a) (V.getD (pl E b) e0)).set (pl E b) e0) V := by
  obtain ⟨ha1, ha2, ha3⟩ := h.a0
  have pa : pl E a < V.length := by rw [h.len]; exact pl_lt E a
  have pb : pl E b < V.length := by rw [h.len]; exact pl_lt E b
  have pb' : pl E b < (V.set (pl E a) (V.getD (pl E b) e0)).length := by rw [List.length_set]; exact pb
  have hne : pl E a ≠ pl E b := fun e => by have := pl_inj (by omega) (by omega) e; omega
  have hE0 : pl E a ≠ E := fun e => by rw [← pl_0 hE] at e; have := pl_inj (E := (E + 0) % 128) (a := a) (b := 0) (by omega) (by omega) (by unfold pl at *; omega); omega
  have hEb : pl E b ≠ E := fun e => by unfold pl at e; omega
  have hg : ∀ i, ((V.set (pl E a) (V.getD (pl E b) e0)).set (pl E b) e0).getD i e0 = if i = pl E b then e0 else if i = pl E a then V.getD (pl E b) e0 else V.getD i e0 := fun i => by
    rw [getD_set pb', getD_set pa]
  have hke : ∀ i, keyAt ((V.set (pl E a) (V.getD (pl E b) e0)).set (pl E b) e0) i = if i = pl E b then [] else if i = pl E a then keyAt V (pl E b) else keyAt V i := fun i => by
    unfold keyAt; rw [hg]; split
    · rfl
    · split <;> rfl
  have hkc : ∀ c, c < 128 → keyAt ((V.set (pl E a) (V.getD (pl E b) e0)).set (pl E b) e0) (pl E c) = if c = b then [] else if c = a then keyAt V (pl E b) else keyAt V (pl E c) := fun c hc => by
    rw [hke]
    by_cases h1 : c = b
    · subst h1; simp
    · rw [if_neg (fun e => h1 (pl_inj hc hb e)), if_neg h1]
      by_cases h2 : c = a
      · subst h2; simp
      · rw [if_neg (fun e => h2 (pl_inj hc (by omega) e)), if_neg h2]
  have hfull : full ((V.set (pl E a) (V.getD (pl E b) e0)).set (pl E b) e0) = full V := by
    have h1 := full_set (t := V.set (pl E a) (V.getD (pl E b) e0)) (x := e0) pb'
    have h2 := full_set (t := V) (x := V.getD (pl E b) e0) pa
    rw [keyAt_set pa, if_neg (Ne.symm hne), if_neg hk] at h1
    rw [if_pos h.hole] at h2
    have h3 : (V.getD (pl E b) e0).1 ≠ [] := hk
    rw [if_neg h3] at h2
    rw [if_pos (show e0.1 = [] from rfl)] at h1
    omega
  generalize hW : (V.set (pl E a) (V.getD (pl E b) e0)).set (pl E b) e0 = W at *
  refine ⟨⟨by rw [← hW]; simp [h.len], fun i hi h0 => ?_, fun i hi => ?_, fun i j hi hj => ?_, ?_, by omega, ?_, fun c hc => ?_, fun c hc => ?_, fun c hc hc' => ?_⟩, hfull, fun k v hkv => ?_⟩
  · rw [hke] at h0
    rw [hg]
    split
    · rfl
    · rename_i h1
      rw [if_neg h1] at h0
      split
      · rename_i h2; rw [if_pos h2] at h0; exact absurd h0 hk
      · rename_i h2; rw [if_neg h2] at h0; exact h.val i hi h0
  · rw [hke]; split
    · simp
    · split
      · exact h.key _ (pl_lt E b)
      · exact h.key i hi
  · rw [hke, hke]
    by_cases h1 : i = pl E b
    · rw [if_pos h1]; intro h; exact absurd rfl h
    · rw [if_neg h1]
      by_cases h2 : j = pl E b
      · rw [if_pos h2]; intro h3 h4; exact absurd h4 h3
      · rw [if_neg h2]
        by_cases h3 : i = pl E a <;> by_cases h4 : j = pl E a
        · intros; omega
        · rw [if_pos h3, if_neg h4]; intro h5 h6; exact absurd (h.inj _ j (pl_lt E b) hj h5 h6).symm h2
        · rw [if_neg h3, if_pos h4]; intro h5 h6; exact absurd (h.inj i _ hi (pl_lt E b) h5 h6) h1
        · rw [if_neg h3, if_neg h4]; exact h.inj i j hi hj
  · rw [hke, if_neg (Ne.symm hEb), if_neg (Ne.symm hE0)]; exact h.e
  · rw [hke, if_pos rfl]
  · rw [hkc c hc]
    split
    · intro h; exact absurd rfl h
    · split
      · rename_i h2; subst h2; intro _; exact hm'
      · exact h.lo c hc
  · rw [hkc c (by omega)]
    by_cases h1 : c = b
    · rw [if_pos h1]; intro h; exact absurd rfl h
    · rw [if_neg h1]
      by_cases h2 : c = a
      · subst h2
        rw [if_pos rfl]
        intro _ x hx hxc
        rw [hkc x (by omega), if_neg (by omega)]
        split
        · exact hk
        · rename_i h3
          rcases h.away b (Nat.le_refl _) hb hk x hx (by omega) with h4 | h4
          · exact absurd h4 h3
          · exact h4
      · rw [if_neg h2]
        intro h3 x hx hxc
        have := h.near c (by omega) h3 x hx hxc
        rw [hkc x (by omega), if_neg (by omega)]
        split
        · exact hk
        · exact this
  · rw [hkc c hc', if_neg (by omega), if_neg (by omega)]
    intro h3 x hx hxc
    rw [hkc x (by omega)]
    by_cases h4 : x = b
    · exact .inl h4
    · refine .inr ?_
      rw [if_neg h4]
      split
      · exact hk
      · rename_i h5
        rcases h.away c (by omega) hc' h3 x hx hxc with h6 | h6
        · exact absurd h6 h5
        · exact h6
  · constructor
    · rintro ⟨i, hi, he⟩
      rw [hg] at he
      split at he
      · exact absurd (congrArg Prod.fst he).symm hkv
      · split at he
        · exact ⟨_, pl_lt E b, he⟩
        · exact ⟨i, hi, he⟩
    · rintro ⟨i, hi, he⟩
      by_cases h1 : i = pl E b
      · subst h1
        exact ⟨pl E a, pl_lt E a, by rw [hg, if_neg hne, if_pos rfl, he]⟩
      · by_cases h2 : i = pl E a
        · subst h2
          have h3 := h.hole
          unfold keyAt at h3
          rw [he] at h3
          exact absurd h3 hkv
        · exact ⟨i, hi, by rw [hg, if_neg h1, if_neg h2, he]⟩

/-- One that may not stays. -/
theorem Gap.stay {E : Nat} {V : List Pc} {a b : Nat} (h : Gap E V a b) (hb : b < 128) (hm' : a < hm E (keyAt V (pl E b))) : Gap E V a (b + 1) := by
  obtain ⟨ha1, ha2, ha3⟩ := h.a0
  refine ⟨h.len, h.val, h.key, h.inj, h.e, by omega, h.hole, h.lo, fun c hc hk x hx hxc => ?_, fun c hc hc' => h.away c (by omega) hc'⟩
  rcases Nat.lt_or_ge c b with h1 | h1
  · exact h.near c h1 hk x hx hxc
  · obtain rfl : c = b := by omega
    rcases h.away c (Nat.le_refl _) hb hk x hx hxc with h2 | h2
    · omega
    · exact h2

theorem Alike.trans {A B C : List Pc} (h : Alike A B) (k : Alike B C) : Alike A C := ⟨h.1.trans k.1, fun x v hx => (h.2 x v hx).trans (k.2 x v hx)⟩

/-- What the loop comes to. -/
theorem delF_law {E : Nat} (hE : E < 128) : ∀ (n : Nat) (o : List Pc) (a b : Nat), Gap E (o.set (pl E a) e0) a b → 129 ≤ n + b → o.length = 128 →
    ∃ o' h, delF n o (pl E a) (pl E b) = some (o', h) ∧ h < 128 ∧ o'.length = 128 ∧ Alike (o'.set h e0) (o.set (pl E a) e0) ∧
      (∀ i, i < 128 → keyAt (o'.set h e0) i = [] → (o'.set h e0).getD i e0 = e0) ∧ (∀ i, i < 128 → (keyAt (o'.set h e0) i).length ≤ 16) ∧ (∀ i j, i < 128 → j < 128 → keyAt (o'.set h e0) i ≠ [] → keyAt (o'.set h e0) i = keyAt (o'.set h e0) j → i = j) ∧
      ∀ i, i < 128 → keyAt (o'.set h e0) i ≠ [] → ∀ d, d ≤ far (home (keyAt (o'.set h e0) i)) i → keyAt (o'.set h e0) ((home (keyAt (o'.set h e0) i) + d) % 128) ≠ []
  | 0, o, a, b, g, hn, hl => by have := g.a0; omega
  | n + 1, o, a, b, g, hn, hl => by
    obtain ⟨ha1, ha2, ha3⟩ := g.a0
    have pa : pl E a < o.length := by rw [hl]; exact pl_lt E a
    have hne : pl E b ≠ pl E a := by unfold pl; omega
    have hk : keyAt (o.set (pl E a) e0) (pl E b) = keyAt o (pl E b) := by rw [keyAt_set pa, if_neg hne]
    have hgt : (o.set (pl E a) e0).getD (pl E b) e0 = o.getD (pl E b) e0 := by rw [getD_set pa, if_neg hne]
    unfold delF
    by_cases h0 : keyAt o (pl E b) = []
    · rw [if_pos h0]
      exact ⟨o, _, rfl, pl_lt E a, hl, ⟨rfl, fun _ _ _ => Iff.rfl⟩, g.val, g.key, g.inj, g.done hE (by rw [hk]; exact h0)⟩
    · rw [if_neg h0]
      have hb : b < 128 := by
        rcases Nat.lt_or_ge b 128 with h1 | h1
        · exact h1
        · obtain rfl : b = 128 := by omega
          rw [pl_E hE] at h0 hk
          exact absurd (hk ▸ g.e) h0
      have hlo := g.lo b hb (by rw [hk]; exact h0)
      rw [hk] at hlo
      have hh := home_lt (keyAt o (pl E b))
      have hcond : far (home (keyAt o (pl E b))) (pl E b) ≥ far (pl E a) (pl E b) ↔ hm E (keyAt o (pl E b)) ≤ a := by
        unfold hm at hlo ⊢
        generalize home (keyAt o (pl E b)) = q at hlo hh ⊢
        unfold far pl at *
        omega
      by_cases hc : hm E (keyAt o (pl E b)) ≤ a
      · rw [if_pos (hcond.2 hc)]
        obtain ⟨g1, g2⟩ := g.move hE hb (by rw [hk]; exact h0) (by rw [hk]; exact hc)
        have hset : ((o.set (pl E a) e0).set (pl E a) ((o.set (pl E a) e0).getD (pl E b) e0)).set (pl E b) e0 = (o.set (pl E a) (o.getD (pl E b) e0)).set (pl E b) e0 := by rw [hgt, List.set_set]
        rw [hset] at g1 g2
        rw [nxt_pl]
        obtain ⟨o', h, r1, r2, r3, r4, r5⟩ := delF_law hE n _ b (b + 1) g1 (by omega) (by rw [List.length_set, hl])
        exact ⟨o', h, r1, r2, r3, r4.trans g2, r5⟩
      · rw [if_neg (fun e => hc (hcond.1 e)), nxt_pl]
        exact delF_law hE n o a (b + 1) (g.stay hb (by rw [hk]; omega)) (by omega) hl

/-- A key that is there is deleted. -/
theorem del_law {t : List Pc} (h : WF t) {k : List UInt8} {v : Int} {p : Nat} (hk : k ≠ []) (hp : p < 128) (he : t.getD p e0 = (k, v)) :
    ∃ o q, delF 128 t p (nxt p) = some (o, q) ∧ q < 128 ∧ o.length = 128 ∧ WF (o.set q e0) ∧ full (o.set q e0) + 1 = full t ∧ ∀ k', look (o.set q e0) k' = if k' = k then none else look t k' := by
  obtain ⟨E, hE, h0⟩ := has_empty h.len h.cnt
  obtain ⟨a, ha, rfl⟩ := pl_of hE hp
  have hki : keyAt t (pl E a) = k := by unfold keyAt; rw [he]
  have ha0 : a ≠ 0 := fun e => by subst e; rw [pl_0 hE, h0] at hki; exact hk hki.symm
  have pa : pl E a < t.length := by rw [h.len]; exact pl_lt E a
  have hke : ∀ i, keyAt (t.set (pl E a) e0) i = if i = pl E a then [] else keyAt t i := fun i => keyAt_set pa
  have hkc : ∀ c, c < 128 → keyAt (t.set (pl E a) e0) (pl E c) = if c = a then [] else keyAt t (pl E c) := fun c hc => by
    rw [hke]
    by_cases h1 : c = a
    · subst h1; simp
    · rw [if_neg h1, if_neg (fun e => h1 (pl_inj hc ha e))]
  have hfull : full (t.set (pl E a) e0) + 1 = full t := by
    have := full_set (x := e0) pa
    rw [hki, if_neg hk] at this
    simpa [e0] using this
  have lin : ∀ c, c < 128 → keyAt t (pl E c) ≠ [] → _ := fun c hc hk => lin_of_path hE h0 h.path hc hk
  have g : Gap E (t.set (pl E a) e0) a (a + 1) := by
    refine ⟨by rw [List.length_set, h.len], fun i hi h1 => ?_, fun i hi => ?_, fun i j hi hj => ?_, ?_, by omega, by rw [hke, if_pos rfl], fun c hc => ?_, fun c hc => ?_, fun c hc hc' => ?_⟩
    · rw [getD_set pa]
      split
      · rfl
      · rename_i h2; rw [hke, if_neg h2] at h1; exact h.val i hi h1
    · rw [hke]; split
      · simp
      · exact h.key i hi
    · rw [hke, hke]
      split
      · intro h; exact absurd rfl h
      · split
        · intro h1 h2; exact absurd h2 h1
        · exact h.inj i j hi hj
    · rw [hke]; split
      · rfl
      · exact h0
    · rw [hkc c hc]; split
      · intro h; exact absurd rfl h
      · intro hk; exact (lin c hc hk).1
    · rw [hkc c (by omega)]; split
      · intro h; exact absurd rfl h
      · rename_i h1
        intro hk x hx hxc
        rw [hkc x (by omega), if_neg (by omega)]
        exact (lin c (by omega) hk).2 x hx hxc
    · rw [hkc c hc', if_neg (by omega)]
      intro hk x hx hxc
      rw [hkc x (by omega)]
      by_cases h1 : x = a
      · exact .inl h1
      · rw [if_neg h1]; exact .inr ((lin c hc' hk).2 x hx hxc)
  obtain ⟨o, q, r1, r2, r3, r4, r5, r6, r7, r8⟩ := delF_law hE 128 t a (a + 1) g (by omega) h.len
  have hw : WF (o.set q e0) := ⟨by rw [List.length_set, r3], by have := r4.1; have := h.cnt; omega, r5, r6, r7, r8⟩
  refine ⟨o, q, by rw [nxt_pl]; exact r1, r2, r3, hw, by rw [r4.1]; exact hfull, fun k' => ?_⟩
  by_cases hkk : k' = k
  · subst hkk
    rw [if_pos rfl, look_none hw]
    intro i hi _ h1
    obtain ⟨j, hj, hej⟩ := (r4.2 k' _ hk).1 ⟨i, hi, Prod.ext h1 rfl⟩
    rw [getD_set pa] at hej
    split at hej
    · exact hk (congrArg Prod.fst hej).symm
    · rename_i h2
      have := h.inj j _ hj (pl_lt E a) (by unfold keyAt; rw [hej]; exact hk) (by rw [hki]; unfold keyAt; rw [hej])
      exact h2 this
  · rw [if_neg hkk]
    refine look_ext fun w => ?_
    rw [look_iff hw, look_iff h]
    refine and_congr_right fun hk' => (r4.2 k' w hk').trans (exists_congr fun i => and_congr_right fun hi => ?_)
    rw [getD_set pa]
    split
    · rename_i e
      subst e
      constructor
      · intro h1; exact absurd (congrArg Prod.fst h1).symm hk'
      · intro h1; rw [he] at h1; exact absurd (congrArg Prod.fst h1).symm hkk
    · exact Iff.rfl

/-- One that was put anew is deleted, and nobody moves. -/
theorem back_law {t : List Pc} (h : WF t) {k : List UInt8} (hk : k ≠ []) {p : Nat} (hp : p < 128) (h0 : keyAt t p = []) (x : Int) :
    ∀ n b, 1 ≤ b → b ≤ 128 → 129 ≤ n + b → (∀ c, 1 ≤ c → c < b → keyAt t (pl p c) ≠ []) → ∃ o, delF n (t.set p (k, x)) p (pl p b) = some (o, p) ∧ o.set p e0 = t := by
  have pa : p < t.length := by rw [h.len]; exact hp
  have hback : (t.set p (k, x)).set p e0 = t := by rw [List.set_set]; exact set_same pa (h.val p hp h0)
  intro n
  induction n with
  | zero => intro b h1 h2 h3; omega
  | succ n ih =>
    intro b h1 h2 h3 h4
    unfold delF
    by_cases hb : b = 128
    · subst hb
      -- the whole round: there would be no empty place behind
      obtain ⟨E, hE, hE0⟩ := has_empty (t := t.set p (k, x)) (by rw [List.length_set, h.len]) (by
        have := full_set (x := (k, x)) pa
        rw [if_pos h0, if_neg hk] at this
        have hc := h.cnt
        rcases Nat.lt_or_ge (full t) 96 with h5 | h5
        · omega
        · exfalso
          have : full t = 127 := by
            have h6 : full (t.set p (k, x)) = 128 := full_all (by rw [List.length_set, h.len]) fun i hi => by
              rw [keyAt_set pa]
              split
              · exact hk
              · rename_i h7
                obtain ⟨c, hc, rfl⟩ := pl_of hp hi
                exact h4 c (by rcases Nat.eq_zero_or_pos c with rfl | h8; · exact absurd (pl_0 hp) h7
                               · exact h8) hc
            omega
          omega)
      rw [keyAt_set pa] at hE0
      split at hE0
      · exact absurd hE0 hk
      · rename_i h7
        obtain ⟨c, hc, rfl⟩ := pl_of hp hE
        exact absurd hE0 (h4 c (by rcases Nat.eq_zero_or_pos c with rfl | h8; · exact absurd (pl_0 hp) h7
                                   · exact h8) hc)
    · have hne : pl p b ≠ p := fun e => by unfold pl at e; omega
      rw [keyAt_set pa, if_neg hne]
      by_cases hkb : keyAt t (pl p b) = []
      · rw [if_pos hkb]
        exact ⟨_, rfl, hback⟩
      · rw [if_neg hkb]
        obtain ⟨g1, g2⟩ := lin_of_path hp h0 h.path (c := b) (by omega) hkb
        have hm0 : hm p (keyAt t (pl p b)) ≠ 0 := fun e => g2 0 (by omega) (by omega) (by rw [pl_0 hp]; exact h0)
        have hh := home_lt (keyAt t (pl p b))
        rw [if_neg (by
          unfold hm at g1 hm0
          generalize home (keyAt t (pl p b)) = q at g1 hm0 hh
          unfold far pl at *
          omega), nxt_pl]
        exact ih (b + 1) (by omega) (by omega) (by omega) fun c hc hcb => by
          rcases Nat.lt_or_ge c b with h5 | h5
          · exact h4 c hc h5
          · obtain rfl : c = b := by omega
            exact hkb

theorem del_back {t : List Pc} (h : WF t) {k : List UInt8} (hk : k ≠ []) {p : Nat} (hp : p < 128) (h0 : keyAt t p = []) (x : Int) : ∃ o, delF 128 (t.set p (k, x)) p (nxt p) = some (o, p) ∧ o.set p e0 = t := by
  have := back_law h hk hp h0 x 128 1 (by omega) (by omega) (by omega) (fun c h1 h2 => by omega)
  rwa [show pl p 1 = nxt p from rfl] at this

end Go.Proofs.Ytgilodbgleogmaa

/- Table (chapter 13): hash, home, places, seeking. -/
namespace Go.Proofs.Ytgilodbgleogmaa
open Go Go.MW
set_option linter.unusedSimpArgs false
set_option linter.unusedVariables false
set_option maxRecDepth 8000

/-- A place as an element. -/
def plE : El Pc where
  sz := 2
  f p := .agg [.str p.1, .int .i64 p.2]
  d := e0
  im := false
  good p := ⟨rfl, by simp [V.cells, V.one]⟩
  free p j hj := by
    have : j = 0 ∨ j = 1 := by omega
    rcases this with rfl | rfl
    · exact .str _
    · exact .int _ _
theorem iaK_pl {v : V} {l : List Pc} (h : IsE plE v l) {H : List Blk} {k : IntKind} {n : Int} {K : V → Prop} (h0 : 0 ≤ n) (hn : n.toNat < l.length) : iaK H 2 v (.int k n) K = K (.vp [.str (keyAt l n.toNat), .int .i64 (l.getD n.toNat e0).2]) :=
  iaK_isE h (e := plE) rfl h0 hn

theorem key_fn (k : List UInt8) : Does Try.prog G0 false 13 [.str k] (.bool (keyOK k)) := by
  refine Does.intro mixed comp13 ?_
  unfold c13
  simp -implicitDefEqProofs (disch := omega) only [mwx, ne_eq, false_implies, implies_true, forall_eq_or_imp, MW.get, ev, evs, argFr, resK, packV, slHK, partsV, partsS, setR, Int.cast_ofNat_Int, Int.natCast_zero, Int.natCast_one, Nat.reduceLeDiff, reduceIte, Nat.reduceEqDiff, Nat.reduceBEq, reduceCtorEq, Nat.reduceAdd, Nat.reduceMul, Nat.reduceSub, Nat.reduceLT, Int.reduceToNat, Int.reduceLT, Int.reduceLE, Int.reduceEq, Int.reduceAdd, Int.reduceNeg, Int.reduceMul, Int.reduceSub]
  refine xg_dec (fun h => ?_) fun h => ?_
  · simp -implicitDefEqProofs (disch := omega) only [h, mwx, ne_eq, false_implies, implies_true, forall_eq_or_imp, MW.get, ev, evs, argFr, resK, packV, slHK, partsV, partsS, setR, Int.cast_ofNat_Int, Int.natCast_zero, Int.natCast_one, Nat.reduceLeDiff, reduceIte, Nat.reduceEqDiff, Nat.reduceBEq, reduceCtorEq, Nat.reduceAdd, Nat.reduceMul, Nat.reduceSub, Nat.reduceLT, Int.reduceToNat, Int.reduceLT, Int.reduceLE, Int.reduceEq, Int.reduceAdd, Int.reduceNeg, Int.reduceMul, Int.reduceSub]
    refine frz_bool ?_
    unfold keyOK
    rw [decide_eq_decide]
    omega
  · simp -implicitDefEqProofs (disch := omega) only [h, mwx, ne_eq, false_implies, implies_true, forall_eq_or_imp, MW.get, ev, evs, argFr, resK, packV, slHK, partsV, partsS, setR, Int.cast_ofNat_Int, Int.natCast_zero, Int.natCast_one, Nat.reduceLeDiff, reduceIte, Nat.reduceEqDiff, Nat.reduceBEq, reduceCtorEq, Nat.reduceAdd, Nat.reduceMul, Nat.reduceSub, Nat.reduceLT, Int.reduceToNat, Int.reduceLT, Int.reduceLE, Int.reduceEq, Int.reduceAdd, Int.reduceNeg, Int.reduceMul, Int.reduceSub]
    refine frz_bool ?_
    unfold keyOK
    symm
    rw [decide_eq_false_iff_not]
    omega

theorem hash_take {k : List UInt8} {i : Nat} (h : i < k.length) : hash (k.take (i + 1)) = hstep (hash (k.take i)) (k.getD i 0) := by
  unfold hash
  rw [List.take_add_one, List.foldl_append, List.getElem?_eq_getElem h, List.getD_eq_getElem?_getD, List.getElem?_eq_getElem h]
  rfl

theorem hash_range (k : List UInt8) : 0 ≤ hash k ∧ hash k < 2 ^ 64 := by
  rcases Nat.eq_zero_or_pos k.length with h | h
  · rw [List.length_eq_zero_iff.1 h]; decide
  · have := hash_take (k := k) (i := k.length - 1) (by omega)
    rw [show k.length - 1 + 1 = k.length by omega, List.take_length] at this
    rw [this, hstep, wrap_u64i]
    omega

theorem hash_fn (k : List UInt8) (hk : k.length ≤ 1000000) : Does Try.prog G0 false 31 [.str k] (.int .u64 (hash k)) := by
  refine Does.intro mixed comp31 ?_
  unfold c31
  simp -implicitDefEqProofs (disch := omega) only [mwx, ne_eq, false_implies, implies_true, forall_eq_or_imp, MW.get, ev, evs, argFr, resK, packV, slHK, partsV, partsS, setR, Int.cast_ofNat_Int, Int.natCast_zero, Int.natCast_one, Nat.reduceLeDiff, reduceIte, Nat.reduceEqDiff, Nat.reduceBEq, reduceCtorEq, Nat.reduceAdd, Nat.reduceMul, Nat.reduceSub, Nat.reduceLT, Int.reduceToNat, Int.reduceLT, Int.reduceLE, Int.reduceEq, Int.reduceAdd, Int.reduceNeg, Int.reduceMul, Int.reduceSub]
  refine xl_loop (fun m st => ∃ i : Nat, m + i = k.length ∧ get st.fr 0 = .str k ∧ get st.fr 3 = .int .u64 (hash (k.take i)) ∧ get st.fr 6 = .int .i64 k.length ∧ get st.fr 7 = .int .i64 i) k.length ⟨0, by omega, rfl, rfl, rfl, rfl⟩ ?_
  rintro J hJ m fr H ⟨i, h1, h2, h3, h4, h5⟩
  simp -implicitDefEqProofs (disch := omega) only [h2, h3, h4, h5, mwx, ne_eq, false_implies, implies_true, forall_eq_or_imp, MW.get, ev, evs, argFr, resK, packV, slHK, partsV, partsS, setR, Int.cast_ofNat_Int, Int.natCast_zero, Int.natCast_one, Nat.reduceLeDiff, reduceIte, Nat.reduceEqDiff, Nat.reduceBEq, reduceCtorEq, Nat.reduceAdd, Nat.reduceMul, Nat.reduceSub, Nat.reduceLT, Int.reduceToNat, Int.reduceLT, Int.reduceLE, Int.reduceEq, Int.reduceAdd, Int.reduceNeg, Int.reduceMul, Int.reduceSub]
  refine xc_dec (fun h => ?_) fun h => ?_
  · have hi : i < k.length := by omega
    have hw : IntKind.u64.wrap ((k.getD i 0).toNat : Int) = (k.getD i 0).toNat := wrap_u64' (by have := (k.getD i 0).toNat_lt; omega)
    simp -implicitDefEqProofs (disch := omega) only [h2, h3, h4, h5, u8V, hi, hw, mwx, ne_eq, false_implies, implies_true, forall_eq_or_imp, MW.get, ev, evs, argFr, resK, packV, slHK, partsV, partsS, setR, Int.cast_ofNat_Int, Int.natCast_zero, Int.natCast_one, Nat.reduceLeDiff, reduceIte, Nat.reduceEqDiff, Nat.reduceBEq, reduceCtorEq, Nat.reduceAdd, Nat.reduceMul, Nat.reduceSub, Nat.reduceLT, Int.reduceToNat, Int.reduceLT, Int.reduceLE, Int.reduceEq, Int.reduceAdd, Int.reduceNeg, Int.reduceMul, Int.reduceSub]
    exact ⟨m - 1, by omega, hJ _ _ ⟨i + 1, by omega, h2, by rw [hash_take hi]; rfl, h4, rfl⟩⟩
  · simp -implicitDefEqProofs (disch := omega) only [h3, mwx, ne_eq, false_implies, implies_true, forall_eq_or_imp, MW.get, ev, evs, argFr, resK, packV, slHK, partsV, partsS, setR, Int.cast_ofNat_Int, Int.natCast_zero, Int.natCast_one, Nat.reduceLeDiff, reduceIte, Nat.reduceEqDiff, Nat.reduceBEq, reduceCtorEq, Nat.reduceAdd, Nat.reduceMul, Nat.reduceSub, Nat.reduceLT, Int.reduceToNat, Int.reduceLT, Int.reduceLE, Int.reduceEq, Int.reduceAdd, Int.reduceNeg, Int.reduceMul, Int.reduceSub]
    obtain rfl : i = k.length := by omega
    exact frz_int (by rw [List.take_length])

theorem home_i (k : List UInt8) : (hash k).tmod 128 = (home k : Int) := by
  have := hash_range k
  unfold home
  rw [Int.tmod_eq_emod_of_nonneg (by omega)]
  omega

theorem thome_fn (k : List UInt8) (hk : k.length ≤ 1000000) : Does Try.prog G0 false 28 [.str k, .int .i64 128] (.int .i64 (home k)) := by
  refine Does.intro mixed comp28 ?_
  unfold c28
  simp -implicitDefEqProofs (disch := omega) only [mwx, ne_eq, false_implies, implies_true, forall_eq_or_imp, MW.get, ev, evs, argFr, resK, packV, slHK, partsV, partsS, setR, Int.cast_ofNat_Int, Int.natCast_zero, Int.natCast_one, Nat.reduceLeDiff, reduceIte, Nat.reduceEqDiff, Nat.reduceBEq, reduceCtorEq, Nat.reduceAdd, Nat.reduceMul, Nat.reduceSub, Nat.reduceLT, Int.reduceToNat, Int.reduceLT, Int.reduceLE, Int.reduceEq, Int.reduceAdd, Int.reduceNeg, Int.reduceMul, Int.reduceSub]
  refine Does.call (hash_fn k hk) (fr1 (.str _)) ?_
  have hh := home_lt k
  have h1 : IntKind.u64.wrap 128 = 128 := by decide
  have h2 : IntKind.i64.wrap (home k : Int) = home k := wrap64 (by omega) (by omega)
  have h3 : ¬ (128 : Int) = 0 := by decide
  simp -implicitDefEqProofs (disch := omega) only [h1, home_i, h2, h3, mwx, ne_eq, false_implies, implies_true, forall_eq_or_imp, MW.get, ev, evs, argFr, resK, packV, slHK, partsV, partsS, setR, Int.cast_ofNat_Int, Int.natCast_zero, Int.natCast_one, Nat.reduceLeDiff, reduceIte, Nat.reduceEqDiff, Nat.reduceBEq, reduceCtorEq, Nat.reduceAdd, Nat.reduceMul, Nat.reduceSub, Nat.reduceLT, Int.reduceToNat, Int.reduceLT, Int.reduceLE, Int.reduceEq, Int.reduceAdd, Int.reduceNeg, Int.reduceMul, Int.reduceSub]
  exact frz_int rfl

theorem home_fn (k : List UInt8) (hk : k.length ≤ 1000000) : Does Try.prog G0 false 26 [.str k] (.int .i64 (home k)) := by
  refine Does.intro mixed comp26 ?_
  unfold c26
  simp -implicitDefEqProofs (disch := omega) only [mwx, ne_eq, false_implies, implies_true, forall_eq_or_imp, MW.get, ev, evs, argFr, resK, packV, slHK, partsV, partsS, setR, Int.cast_ofNat_Int, Int.natCast_zero, Int.natCast_one, Nat.reduceLeDiff, reduceIte, Nat.reduceEqDiff, Nat.reduceBEq, reduceCtorEq, Nat.reduceAdd, Nat.reduceMul, Nat.reduceSub, Nat.reduceLT, Int.reduceToNat, Int.reduceLT, Int.reduceLE, Int.reduceEq, Int.reduceAdd, Int.reduceNeg, Int.reduceMul, Int.reduceSub]
  refine Does.call (thome_fn k hk) (fr2 (.str _) (.int _ _)) ?_
  simp -implicitDefEqProofs (disch := omega) only [mwx, ne_eq, false_implies, implies_true, forall_eq_or_imp, MW.get, ev, evs, argFr, resK, packV, slHK, partsV, partsS, setR, Int.cast_ofNat_Int, Int.natCast_zero, Int.natCast_one, Nat.reduceLeDiff, reduceIte, Nat.reduceEqDiff, Nat.reduceBEq, reduceCtorEq, Nat.reduceAdd, Nat.reduceMul, Nat.reduceSub, Nat.reduceLT, Int.reduceToNat, Int.reduceLT, Int.reduceLE, Int.reduceEq, Int.reduceAdd, Int.reduceNeg, Int.reduceMul, Int.reduceSub]
  exact frz_int rfl

theorem next_fn (i : Nat) (hi : i < 128) : Does Try.prog G0 false 24 [.int .i64 i] (.int .i64 (nxt i)) := by
  refine Does.intro mixed comp24 ?_
  unfold c24
  have h : ((i : Int) + 1).tmod 128 = (nxt i : Int) := by
    rw [Int.tmod_eq_emod_of_nonneg (by omega)]; unfold nxt; omega
  simp -implicitDefEqProofs (disch := omega) only [h, mwx, ne_eq, false_implies, implies_true, forall_eq_or_imp, MW.get, ev, evs, argFr, resK, packV, slHK, partsV, partsS, setR, Int.cast_ofNat_Int, Int.natCast_zero, Int.natCast_one, Nat.reduceLeDiff, reduceIte, Nat.reduceEqDiff, Nat.reduceBEq, reduceCtorEq, Nat.reduceAdd, Nat.reduceMul, Nat.reduceSub, Nat.reduceLT, Int.reduceToNat, Int.reduceLT, Int.reduceLE, Int.reduceEq, Int.reduceAdd, Int.reduceNeg, Int.reduceMul, Int.reduceSub]
  exact frz_int rfl

theorem far_fn (a b : Nat) (ha : a < 128) (hb : b < 128) : Does Try.prog G0 false 25 [.int .i64 a, .int .i64 b] (.int .i64 (far a b)) := by
  refine Does.intro mixed comp25 ?_
  unfold c25
  have h : ((b : Int) - a + 128).tmod 128 = (far a b : Int) := by
    rw [Int.tmod_eq_emod_of_nonneg (by omega)]; unfold far; omega
  simp -implicitDefEqProofs (disch := omega) only [h, mwx, ne_eq, false_implies, implies_true, forall_eq_or_imp, MW.get, ev, evs, argFr, resK, packV, slHK, partsV, partsS, setR, Int.cast_ofNat_Int, Int.natCast_zero, Int.natCast_one, Nat.reduceLeDiff, reduceIte, Nat.reduceEqDiff, Nat.reduceBEq, reduceCtorEq, Nat.reduceAdd, Nat.reduceMul, Nat.reduceSub, Nat.reduceLT, Int.reduceToNat, Int.reduceLT, Int.reduceLE, Int.reduceEq, Int.reduceAdd, Int.reduceNeg, Int.reduceMul, Int.reduceSub]
  exact frz_int rfl

theorem seek_fn {v : V} {t : List Pc} (hv : IsE plE v t) (hl : t.length = 128) {k : List UInt8} (hk : k.length ≤ 1000000) {p : Nat} {b : Bool} (hs : seekF t k 128 (home k) = some (p, b)) :
    Does Try.prog G0 false 21 [v, .str k] (.tup [.int .i64 p, .bool b]) := by
  refine Does.intro mixed comp21 ?_
  unfold c21
  have hh := home_lt k
  simp -implicitDefEqProofs (disch := omega) only [mwx, ne_eq, false_implies, implies_true, forall_eq_or_imp, MW.get, ev, evs, argFr, resK, packV, slHK, partsV, partsS, setR, Int.cast_ofNat_Int, Int.natCast_zero, Int.natCast_one, Nat.reduceLeDiff, reduceIte, Nat.reduceEqDiff, Nat.reduceBEq, reduceCtorEq, Nat.reduceAdd, Nat.reduceMul, Nat.reduceSub, Nat.reduceLT, Int.reduceToNat, Int.reduceLT, Int.reduceLE, Int.reduceEq, Int.reduceAdd, Int.reduceNeg, Int.reduceMul, Int.reduceSub]
  refine xl_jump (fun n st => ∃ i : Nat, i < 128 ∧ get st.fr 0 = v ∧ get st.fr 1 = .str k ∧ get st.fr 6 = .int .i64 i ∧ seekF t k n i = some (p, b)) (fun J hJ => ?_) fun J hJ n fr H hI => ?_
  · have hi0 : (0 : Int) ≤ (home k : Int) := by omega
    have hi1 : (home k : Int).toNat < t.length := by omega
    simp -implicitDefEqProofs (disch := omega) only [mwx, ne_eq, false_implies, implies_true, forall_eq_or_imp, MW.get, ev, evs, argFr, resK, packV, slHK, partsV, partsS, setR, Int.cast_ofNat_Int, Int.natCast_zero, Int.natCast_one, Nat.reduceLeDiff, reduceIte, Nat.reduceEqDiff, Nat.reduceBEq, reduceCtorEq, Nat.reduceAdd, Nat.reduceMul, Nat.reduceSub, Nat.reduceLT, Int.reduceToNat, Int.reduceLT, Int.reduceLE, Int.reduceEq, Int.reduceAdd, Int.reduceNeg, Int.reduceMul, Int.reduceSub]
    refine Does.call (home_fn k hk) (fr1 (.str _)) ?_
    simp -implicitDefEqProofs (disch := omega) only [iaK_pl hv hi0 hi1, mwx, ne_eq, false_implies, implies_true, forall_eq_or_imp, MW.get, ev, evs, argFr, resK, packV, slHK, partsV, partsS, setR, Int.cast_ofNat_Int, Int.natCast_zero, Int.natCast_one, Nat.reduceLeDiff, reduceIte, Nat.reduceEqDiff, Nat.reduceBEq, reduceCtorEq, Nat.reduceAdd, Nat.reduceMul, Nat.reduceSub, Nat.reduceLT, Int.reduceToNat, Int.reduceLT, Int.reduceLE, Int.reduceEq, Int.reduceAdd, Int.reduceNeg, Int.reduceMul, Int.reduceSub]
    unfold seekF at hs
    refine xc_any (fun h => ?_) fun h => ?_
    · rw [if_pos (by simpa using h)] at hs
      cases hs
      simp -implicitDefEqProofs (disch := omega) only [mwx, ne_eq, false_implies, implies_true, forall_eq_or_imp, MW.get, ev, evs, argFr, resK, packV, slHK, partsV, partsS, setR, Int.cast_ofNat_Int, Int.natCast_zero, Int.natCast_one, Nat.reduceLeDiff, reduceIte, Nat.reduceEqDiff, Nat.reduceBEq, reduceCtorEq, Nat.reduceAdd, Nat.reduceMul, Nat.reduceSub, Nat.reduceLT, Int.reduceToNat, Int.reduceLT, Int.reduceLE, Int.reduceEq, Int.reduceAdd, Int.reduceNeg, Int.reduceMul, Int.reduceSub]
      exact frz_tup2 (frz_int rfl) (frz_bool rfl)
    · rw [if_neg (by simpa using h)] at hs
      simp -implicitDefEqProofs (disch := omega) only [mwx, ne_eq, false_implies, implies_true, forall_eq_or_imp, MW.get, ev, evs, argFr, resK, packV, slHK, partsV, partsS, setR, Int.cast_ofNat_Int, Int.natCast_zero, Int.natCast_one, Nat.reduceLeDiff, reduceIte, Nat.reduceEqDiff, Nat.reduceBEq, reduceCtorEq, Nat.reduceAdd, Nat.reduceMul, Nat.reduceSub, Nat.reduceLT, Int.reduceToNat, Int.reduceLT, Int.reduceLE, Int.reduceEq, Int.reduceAdd, Int.reduceNeg, Int.reduceMul, Int.reduceSub]
      refine xc_any (fun h' => ?_) fun h' => ?_
      · rw [if_pos (by simpa using h')] at hs
        cases hs
        simp -implicitDefEqProofs (disch := omega) only [mwx, ne_eq, false_implies, implies_true, forall_eq_or_imp, MW.get, ev, evs, argFr, resK, packV, slHK, partsV, partsS, setR, Int.cast_ofNat_Int, Int.natCast_zero, Int.natCast_one, Nat.reduceLeDiff, reduceIte, Nat.reduceEqDiff, Nat.reduceBEq, reduceCtorEq, Nat.reduceAdd, Nat.reduceMul, Nat.reduceSub, Nat.reduceLT, Int.reduceToNat, Int.reduceLT, Int.reduceLE, Int.reduceEq, Int.reduceAdd, Int.reduceNeg, Int.reduceMul, Int.reduceSub]
        exact frz_tup2 (frz_int rfl) (frz_bool rfl)
      · rw [if_neg (by simpa using h')] at hs
        simp -implicitDefEqProofs (disch := omega) only [mwx, ne_eq, false_implies, implies_true, forall_eq_or_imp, MW.get, ev, evs, argFr, resK, packV, slHK, partsV, partsS, setR, Int.cast_ofNat_Int, Int.natCast_zero, Int.natCast_one, Nat.reduceLeDiff, reduceIte, Nat.reduceEqDiff, Nat.reduceBEq, reduceCtorEq, Nat.reduceAdd, Nat.reduceMul, Nat.reduceSub, Nat.reduceLT, Int.reduceToNat, Int.reduceLT, Int.reduceLE, Int.reduceEq, Int.reduceAdd, Int.reduceNeg, Int.reduceMul, Int.reduceSub]
        refine Does.call (next_fn (home k) hh) (fr1 (.int _ _)) ?_
        simp -implicitDefEqProofs (disch := omega) only [mwx, ne_eq, false_implies, implies_true, forall_eq_or_imp, MW.get, ev, evs, argFr, resK, packV, slHK, partsV, partsS, setR, Int.cast_ofNat_Int, Int.natCast_zero, Int.natCast_one, Nat.reduceLeDiff, reduceIte, Nat.reduceEqDiff, Nat.reduceBEq, reduceCtorEq, Nat.reduceAdd, Nat.reduceMul, Nat.reduceSub, Nat.reduceLT, Int.reduceToNat, Int.reduceLT, Int.reduceLE, Int.reduceEq, Int.reduceAdd, Int.reduceNeg, Int.reduceMul, Int.reduceSub]
        exact hJ 127 _ ⟨nxt (home k), Nat.mod_lt _ (by decide), rfl, rfl, rfl, hs⟩
  · obtain ⟨i, hi, h1, h2, h3, hs'⟩ := hI
    cases n with
    | zero => cases hs'
    | succ n =>
      have hi0 : (0 : Int) ≤ (i : Int) := by omega
      have hi1 : (i : Int).toNat < t.length := by omega
      simp -implicitDefEqProofs (disch := omega) only [h1, h2, h3, iaK_pl hv hi0 hi1, mwx, ne_eq, false_implies, implies_true, forall_eq_or_imp, MW.get, ev, evs, argFr, resK, packV, slHK, partsV, partsS, setR, Int.cast_ofNat_Int, Int.natCast_zero, Int.natCast_one, Nat.reduceLeDiff, reduceIte, Nat.reduceEqDiff, Nat.reduceBEq, reduceCtorEq, Nat.reduceAdd, Nat.reduceMul, Nat.reduceSub, Nat.reduceLT, Int.reduceToNat, Int.reduceLT, Int.reduceLE, Int.reduceEq, Int.reduceAdd, Int.reduceNeg, Int.reduceMul, Int.reduceSub]
      unfold seekF at hs'
      refine xc_any (fun h => ?_) fun h => ?_
      · rw [if_pos (by simpa using h)] at hs'
        cases hs'
        simp -implicitDefEqProofs (disch := omega) only [h1, h2, h3, mwx, ne_eq, false_implies, implies_true, forall_eq_or_imp, MW.get, ev, evs, argFr, resK, packV, slHK, partsV, partsS, setR, Int.cast_ofNat_Int, Int.natCast_zero, Int.natCast_one, Nat.reduceLeDiff, reduceIte, Nat.reduceEqDiff, Nat.reduceBEq, reduceCtorEq, Nat.reduceAdd, Nat.reduceMul, Nat.reduceSub, Nat.reduceLT, Int.reduceToNat, Int.reduceLT, Int.reduceLE, Int.reduceEq, Int.reduceAdd, Int.reduceNeg, Int.reduceMul, Int.reduceSub]
        exact frz_tup2 (frz_int rfl) (frz_bool rfl)
      · rw [if_neg (by simpa using h)] at hs'
        simp -implicitDefEqProofs (disch := omega) only [h1, h2, h3, mwx, ne_eq, false_implies, implies_true, forall_eq_or_imp, MW.get, ev, evs, argFr, resK, packV, slHK, partsV, partsS, setR, Int.cast_ofNat_Int, Int.natCast_zero, Int.natCast_one, Nat.reduceLeDiff, reduceIte, Nat.reduceEqDiff, Nat.reduceBEq, reduceCtorEq, Nat.reduceAdd, Nat.reduceMul, Nat.reduceSub, Nat.reduceLT, Int.reduceToNat, Int.reduceLT, Int.reduceLE, Int.reduceEq, Int.reduceAdd, Int.reduceNeg, Int.reduceMul, Int.reduceSub]
        refine xc_any (fun h' => ?_) fun h' => ?_
        · rw [if_pos (by simpa using h')] at hs'
          cases hs'
          simp -implicitDefEqProofs (disch := omega) only [h1, h2, h3, mwx, ne_eq, false_implies, implies_true, forall_eq_or_imp, MW.get, ev, evs, argFr, resK, packV, slHK, partsV, partsS, setR, Int.cast_ofNat_Int, Int.natCast_zero, Int.natCast_one, Nat.reduceLeDiff, reduceIte, Nat.reduceEqDiff, Nat.reduceBEq, reduceCtorEq, Nat.reduceAdd, Nat.reduceMul, Nat.reduceSub, Nat.reduceLT, Int.reduceToNat, Int.reduceLT, Int.reduceLE, Int.reduceEq, Int.reduceAdd, Int.reduceNeg, Int.reduceMul, Int.reduceSub]
          exact frz_tup2 (frz_int rfl) (frz_bool rfl)
        · rw [if_neg (by simpa using h')] at hs'
          simp -implicitDefEqProofs (disch := omega) only [h1, h2, h3, mwx, ne_eq, false_implies, implies_true, forall_eq_or_imp, MW.get, ev, evs, argFr, resK, packV, slHK, partsV, partsS, setR, Int.cast_ofNat_Int, Int.natCast_zero, Int.natCast_one, Nat.reduceLeDiff, reduceIte, Nat.reduceEqDiff, Nat.reduceBEq, reduceCtorEq, Nat.reduceAdd, Nat.reduceMul, Nat.reduceSub, Nat.reduceLT, Int.reduceToNat, Int.reduceLT, Int.reduceLE, Int.reduceEq, Int.reduceAdd, Int.reduceNeg, Int.reduceMul, Int.reduceSub]
          refine Does.call (next_fn i hi) (fr1 (.int _ _)) ?_
          simp -implicitDefEqProofs (disch := omega) only [h1, h2, h3, mwx, ne_eq, false_implies, implies_true, forall_eq_or_imp, MW.get, ev, evs, argFr, resK, packV, slHK, partsV, partsS, setR, Int.cast_ofNat_Int, Int.natCast_zero, Int.natCast_one, Nat.reduceLeDiff, reduceIte, Nat.reduceEqDiff, Nat.reduceBEq, reduceCtorEq, Nat.reduceAdd, Nat.reduceMul, Nat.reduceSub, Nat.reduceLT, Int.reduceToNat, Int.reduceLT, Int.reduceLE, Int.reduceEq, Int.reduceAdd, Int.reduceNeg, Int.reduceMul, Int.reduceSub]
          exact ⟨n, by omega, hJ n _ ⟨nxt i, Nat.mod_lt _ (by decide), h1, h2, rfl, hs'⟩⟩

def t0 : List Pc := List.replicate 128 e0

theorem new_fn : Does Try.prog G0 false 10 [] (.vs (plE.vs t0)) := by
  refine Does.intro mixed comp10 ?_
  unfold c10
  have h1 : (0 : Int) ≤ 128 := by decide
  have h2 : (128 : Int) < 2 ^ 63 := by decide
  have h3 : (24 : Int) * 128 ≤ 2 ^ 48 := by decide
  simp -implicitDefEqProofs (disch := omega) only [h1, h2, h3, mwx, ne_eq, false_implies, implies_true, forall_eq_or_imp, MW.get, ev, evs, argFr, resK, packV, slHK, partsV, partsS, setR, Int.cast_ofNat_Int, Int.natCast_zero, Int.natCast_one, Nat.reduceLeDiff, reduceIte, Nat.reduceEqDiff, Nat.reduceBEq, reduceCtorEq, Nat.reduceAdd, Nat.reduceMul, Nat.reduceSub, Nat.reduceLT, Int.reduceToNat, Int.reduceLT, Int.reduceLE, Int.reduceEq, Int.reduceAdd, Int.reduceNeg, Int.reduceMul, Int.reduceSub]
  have h4 : Frz false [Blk.row 2 (plE.vs t0) false false] (.hs 0 128 0 0 128 (some 128) 2) (.vs (plE.vs t0)) := frz_rowE (e := plE) rfl (fun h => by cases h) rfl (by unfold t0; rw [List.length_replicate]) rfl
  exact ⟨by decide, h4⟩

end Go.Proofs.Ytgilodbgleogmaa

