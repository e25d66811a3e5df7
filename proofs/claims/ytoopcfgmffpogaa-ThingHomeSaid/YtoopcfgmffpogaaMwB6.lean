import Derived.Test.YtoopcfgmffpogaaProg
import Derived.Shelf.Sort.Plain
import Derived.Ground.Names2Prog
import Derived.Shelf.Slices.SearchI
import Derived.Shelf.Slices.In.SortNone
import Derived.Test.YtoopcfgmffpogaaMwB5
/- The small code of the functions (ht). -/
namespace Go.Proofs.Ytoopcfgmffpogaa
open Go Go.MW

def c3 : MC := .seq (.reg false [o 5 (.box 3 (.t 1)), o 6 (.box 3 (.t 2)), o 8 (.mv (.c (.bool false)))]) (.seq (.reg false [o 18 (.call 14 []), o 9 (.mv (.t 18))]) (.seq (.seq (.reg false [o 19 (.mv (.t 0)), o 20 (.len 1 (.t 19)), o 21 (.bin .gtr (.t 20) (.c (.int .i64 100)))]) (.cond (.t 21) (.seq (.reg false [o 22 (.mv (.t 9)), o 8 (.mv (.t 22))]) .ret) .skip)) (.seq (.reg false [o 23 (.mv (.t 0)), o 24 (.call 15 [.t 23]), o 10 (.mv (.t 24))]) (.seq (.reg false [o 26 (.mv (.t 0)), o 27 (.mv (.t 3)), o 28 (.call 16 [.t 26, .t 27]), o 25 (.mv (.t 28)), o 29 (.ext (.t 25) 0), o 30 (.ext (.t 25) 1), o 11 (.new 3 (.agg [.int .i64 0, .int .u64 0, .int .u64 0])), s (.st 3 (.t 11) (.t 29)), o 12 (.mv (.t 30))]) (.seq (.reg false [o 32 (.mv (.t 10)), o 33 (.mv (.t 3)), o 34 (.call 17 [.t 32, .t 33]), o 31 (.mv (.t 34)), o 35 (.ext (.t 31) 0), o 36 (.ext (.t 31) 1), o 13 (.new 3 (.agg [.int .i64 0, .int .u64 0, .int .u64 0])), s (.st 3 (.t 13) (.t 35)), o 14 (.mv (.t 36))]) (.seq (.reg false [o 38 (.mv (.t 0)), o 39 (.call 18 [.t 38]), o 37 (.mv (.t 39)), o 40 (.ext (.t 37) 0), o 41 (.ext (.t 37) 1), o 15 (.new 3 (.agg [.int .i64 0, .int .u64 0, .int .u64 0])), s (.st 3 (.t 15) (.t 40)), o 16 (.mv (.t 41))]) (.seq (.reg true [o 42 (.mv (.t 16)), o 43 (.mv (.t 10)), o 44 (.len 1 (.t 43)), o 45 (.bin .gtr (.t 44) (.c (.int .i64 0))), o 46 (.eqB false (.t 42) (.t 45)), o 47 (.mv (.t 46)), go 48 47 true (.mv (.t 16)), go 49 47 true (.mv (.t 48)), go 50 49 false (.ld (some 3) (.t 15)), go 51 49 false (.build [.int .i64 0, .int .u64 0, .int .u64 0] []), go 52 49 false (.eqT false [0, 0, 0] (.t 50) (.t 51)), go 53 47 true (.pick (.t 49) (.c (.bool true)) (.t 52)), o 54 (.pick (.t 47) (.t 53) (.c (.bool false))), o 55 (.mv (.t 54)), go 56 55 true (.mv (.t 16)), go 57 55 true (.un .not (.t 56)), go 58 55 true (.mv (.t 57)), go 59 58 false (.mv (.t 10)), go 60 58 false (.len 1 (.t 59)), go 61 58 false (.bin .gtr (.t 60) (.c (.int .i64 0))), go 62 58 false (.mv (.t 61)), go 63 62 true (.ld (some 3) (.t 15)), go 64 62 true (.mv (.t 10)), go 65 62 true (.ia 3 (.t 64) (.c (.int .i64 0))), go 66 62 true (.ld (some 3) (.t 65)), go 67 62 true (.eqT false [0, 0, 0] (.t 63) (.t 66)), go 68 58 false (.pick (.t 62) (.t 67) (.c (.bool false))), go 69 55 true (.pick (.t 58) (.c (.bool true)) (.t 68)), o 70 (.pick (.t 55) (.t 69) (.c (.bool false))), o 17 (.mv (.t 70))]) (.seq (.reg true [o 71 (.mv (.t 9)), o 72 (.mv (.t 71)), go 73 72 true (.mv (.t 0)), go 74 72 true (.call 19 [.t 73]), go 75 72 true (.mv (.t 0)), go 76 72 true (.call 20 [.t 75]), go 77 72 true (.eqB false (.t 74) (.t 76)), o 78 (.pick (.t 72) (.t 77) (.c (.bool false))), o 79 (.mv (.t 78)), go 80 79 true (.ld (some 3) (.t 5)), go 81 79 true (.ld (some 3) (.t 6)), qq (some 82) (some (79, true)) (.call 21 [.t 80, .t 81]), go 83 79 true (.ld (some 3) (.t 5)), go 84 79 true (.ld (some 3) (.t 6)), go 85 79 true (.call 22 [.t 83, .t 84]), go 86 79 true (.eqB false (.t 82) (.t 85)), o 87 (.pick (.t 79) (.t 86) (.c (.bool false))), o 88 (.mv (.t 87)), go 89 88 true (.mv (.t 0)), go 90 88 true (.call 24 [.t 89]), go 91 88 true (.mv (.t 10)), go 92 88 true (.call 23 [.t 90, .t 91]), o 93 (.pick (.t 88) (.t 92) (.c (.bool false))), o 94 (.mv (.t 93)), go 95 94 true (.ld (some 3) (.t 11)), go 96 94 true (.ld (some 3) (.t 13)), go 97 94 true (.eqT false [0, 0, 0] (.t 95) (.t 96)), o 98 (.pick (.t 94) (.t 97) (.c (.bool false))), o 99 (.mv (.t 98)), go 100 99 true (.mv (.t 12)), go 101 99 true (.mv (.t 14)), go 102 99 true (.eqB false (.t 100) (.t 101)), o 103 (.pick (.t 99) (.t 102) (.c (.bool false))), o 104 (.mv (.t 103)), go 105 104 true (.mv (.t 17)), o 106 (.pick (.t 104) (.t 105) (.c (.bool false))), o 8 (.mv (.t 106))]) .ret))))))))
theorem comp3 : Compiled Try.prog 3 4 c3 [.t 8] := .fn Try.func3 (by kernel_rfl) (by kernel_rfl)
def c4 : MC := .seq (.reg false [o 4 (.mv (.c (.bool false)))]) (.seq (.reg false [o 16 (.call 14 []), o 5 (.mv (.t 16))]) (.seq (.seq (.reg false [o 17 (.mv (.t 0)), o 18 (.len 1 (.t 17)), o 19 (.bin .gtr (.t 18) (.c (.int .i64 64))), o 20 (.mv (.t 19)), go 21 20 false (.mv (.t 1)), go 22 20 false (.len 1 (.t 21)), go 23 20 false (.bin .gtr (.t 22) (.c (.int .i64 100))), o 24 (.pick (.t 20) (.c (.bool true)) (.t 23))]) (.cond (.t 24) (.seq (.reg false [o 25 (.mv (.t 5)), o 4 (.mv (.t 25))]) .ret) .skip)) (.seq (.seq (.reg false [o 26 (.mv (.t 0)), o 27 (.call 19 [.t 26]), o 28 (.un .not (.t 27))]) (.cond (.t 28) (.seq (.reg false [o 30 (.mv (.t 0)), o 31 (.build [.int .i64 0, .int .u64 0, .int .u64 0] []), o 32 (.call 25 [.t 30, .t 31]), o 29 (.mv (.t 32)), o 33 (.ext (.t 29) 0), o 34 (.ext (.t 29) 1), o 6 (.mv (.t 33)), o 7 (.mv (.t 34))]) (.seq (.reg false [o 36 (.mv (.t 0)), o 37 (.call 26 [.t 36, .c (.int .i64 0)]), o 35 (.mv (.t 37)), o 38 (.ext (.t 35) 0), o 39 (.ext (.t 35) 1), o 8 (.mv (.t 38)), o 9 (.mv (.t 39))]) (.seq (.reg false [o 40 (.mv (.t 5)), o 41 (.mv (.t 40)), go 42 41 true (.mv (.t 7)), go 43 41 true (.bin .eql (.t 42) (.c (.int .i64 120))), o 44 (.pick (.t 41) (.t 43) (.c (.bool false))), o 45 (.mv (.t 44)), go 46 45 true (.mv (.t 9)), go 47 45 true (.bin .eql (.t 46) (.c (.int .i64 120))), o 48 (.pick (.t 45) (.t 47) (.c (.bool false))), o 49 (.mv (.t 48)), go 50 49 true (.mv (.t 6)), go 51 49 true (.mv (.t 0)), go 52 49 true (.call 23 [.t 50, .t 51]), o 53 (.pick (.t 49) (.t 52) (.c (.bool false))), o 54 (.mv (.t 53)), go 55 54 true (.mv (.t 8)), go 56 54 true (.mv (.t 0)), go 57 54 true (.call 23 [.t 55, .t 56]), o 58 (.pick (.t 54) (.t 57) (.c (.bool false))), o 4 (.mv (.t 58))]) .ret))) .skip)) (.seq (.reg false [o 59 (.mv (.t 0)), o 60 (.call 15 [.t 59]), o 10 (.mv (.t 60))]) (.seq (.seq (.reg false [o 11 (.mv (.c (.int .i64 0)))]) (.block 0 (.loop (.seq (.seq (.reg false [o 61 (.mv (.t 11)), o 62 (.mv (.t 1)), o 63 (.len 1 (.t 62)), o 64 (.bin .lss (.t 61) (.t 63))]) (.cond (.t 64) .skip (.exit 0))) (.seq (.block 1 (.seq (.reg false [o 67 (.mv (.t 1)), o 68 (.mv (.t 11)), o 69 (.ia 4 (.t 67) (.t 68)), o 70 (.fa 1 (.t 69)), o 71 (.ld (some 3) (.t 70)), o 12 (.new 3 (.agg [.int .i64 0, .int .u64 0, .int .u64 0])), s (.st 3 (.t 12) (.t 71))]) (.seq (.reg false [o 73 (.mv (.t 0)), o 74 (.mv (.t 1)), o 75 (.mv (.t 11)), o 76 (.ia 4 (.t 74) (.t 75)), o 77 (.ld (some 4) (.t 76)), o 78 (.call 27 [.t 73, .t 77]), o 72 (.mv (.t 78)), o 79 (.ext (.t 72) 0), o 80 (.ext (.t 72) 1), o 13 (.mv (.t 79)), o 14 (.mv (.t 80))]) (.seq (.reg false [o 15 (.mv (.c (.int .i64 0)))]) (.seq (.block 2 (.seq (.reg false [o 85 (.mv (.t 1)), o 86 (.mv (.t 11)), o 87 (.ia 4 (.t 85) (.t 86)), o 88 (.fa 0 (.t 87)), o 89 (.ld none (.t 88)), o 90 (.mv (.t 89)), go 91 90 true (.mv (.t 10)), go 92 90 true (.fa 0 (.t 12)), go 93 90 true (.ld none (.t 92)), go 94 90 true (.call 28 [.t 91, .t 93]), go 95 90 true (.un .not (.t 94)), o 96 (.pick (.t 90) (.t 95) (.c (.bool false))), o 84 (.mv (.t 96))]) (.cond (.t 84) (.reg false [o 15 (.mv (.c (.int .i64 120)))]) (.seq (.reg false [o 98 (.mv (.t 1)), o 99 (.mv (.t 11)), o 100 (.ia 4 (.t 98) (.t 99)), o 101 (.fa 0 (.t 100)), o 102 (.ld none (.t 101)), o 97 (.mv (.t 102))]) (.cond (.t 97) (.reg false [o 103 (.mv (.t 10)), o 104 (.fa 0 (.t 12)), o 105 (.ld none (.t 104)), o 106 (.call 29 [.t 103, .t 105]), o 10 (.mv (.t 106))]) (.seq (.reg false [o 108 (.fa 0 (.t 12)), o 109 (.ld none (.t 108)), o 110 (.bin .lss (.t 109) (.c (.int .i64 0))), o 111 (.mv (.t 110)), go 112 111 false (.fa 0 (.t 12)), go 113 111 false (.ld none (.t 112)), go 114 111 false (.bin .gtr (.t 113) (.c (.int .i64 63))), o 115 (.pick (.t 111) (.c (.bool true)) (.t 114)), o 107 (.mv (.t 115))]) (.cond (.t 107) (.reg false [o 15 (.mv (.c (.int .i64 110)))]) (.reg false [o 81 (.mv (.t 10)), o 82 (.ld (some 3) (.t 12)), o 83 (.call 30 [.t 81, .t 82]), o 10 (.mv (.t 83))])))))))) (.seq (.seq (.reg false [o 116 (.mv (.t 14)), o 117 (.mv (.t 15)), o 118 (.bin .neq (.t 116) (.t 117)), o 119 (.mv (.t 118)), go 120 119 false (.mv (.t 13)), go 121 119 false (.call 19 [.t 120]), go 122 119 false (.un .not (.t 121)), o 123 (.pick (.t 119) (.c (.bool true)) (.t 122)), o 124 (.mv (.t 123)), go 125 124 false (.mv (.t 13)), go 126 124 false (.call 24 [.t 125]), go 127 124 false (.mv (.t 10)), go 128 124 false (.call 23 [.t 126, .t 127]), go 129 124 false (.un .not (.t 128)), o 130 (.pick (.t 124) (.c (.bool true)) (.t 129)), o 131 (.mv (.t 130)), go 132 131 false (.mv (.t 14)), go 133 131 false (.bin .neq (.t 132) (.c (.int .i64 0))), go 134 131 false (.mv (.t 133)), go 135 134 true (.mv (.t 13)), go 136 134 true (.mv (.t 0)), go 137 134 true (.call 23 [.t 135, .t 136]), go 138 134 true (.un .not (.t 137)), go 139 131 false (.pick (.t 134) (.t 138) (.c (.bool false))), o 140 (.pick (.t 131) (.c (.bool true)) (.t 139))]) (.cond (.t 140) (.seq (.reg false [o 4 (.mv (.c (.bool false)))]) .ret) .skip)) (.reg false [o 141 (.mv (.t 13)), o 0 (.mv (.t 141))]))))))) (.reg false [o 65 (.mv (.t 11)), o 66 (.bin .add (.t 65) (.c (.int .i64 1))), o 11 (.mv (.t 66))])))))) (.seq (.reg false [o 142 (.mv (.t 5)), o 4 (.mv (.t 142))]) .ret))))))
theorem comp4 : Compiled Try.prog 4 2 c4 [.t 4] := .fn Try.func4 (by kernel_rfl) (by kernel_rfl)
def c5 : MC := .seq (.reg false [o 2 (.mv (.c (.bool false)))]) (.seq (.reg false [o 14 (.call 14 []), o 3 (.mv (.t 14))]) (.seq (.seq (.reg false [o 15 (.mv (.t 0)), o 16 (.len 1 (.t 15)), o 17 (.bin .gtr (.t 16) (.c (.int .i64 100)))]) (.cond (.t 17) (.seq (.reg false [o 18 (.mv (.t 3)), o 2 (.mv (.t 18))]) .ret) .skip)) (.seq (.reg false [o 4 (.mv (.c .nils))]) (.seq (.seq (.reg false [o 5 (.mv (.c (.int .i64 0)))]) (.block 0 (.loop (.seq (.seq (.reg false [o 19 (.mv (.t 5)), o 20 (.mv (.t 0)), o 21 (.len 1 (.t 20)), o 22 (.bin .lss (.t 19) (.t 21))]) (.cond (.t 22) .skip (.exit 0))) (.seq (.block 1 (.seq (.reg false [o 26 (.mv (.t 4)), o 27 (.mv (.t 0)), o 28 (.mv (.t 5)), o 29 (.ia 4 (.t 27) (.t 28)), o 30 (.ld (some 4) (.t 29)), o 31 (.call 27 [.t 26, .t 30]), o 25 (.mv (.t 31)), o 32 (.ext (.t 25) 0), o 33 (.ext (.t 25) 1), o 6 (.mv (.t 32)), o 7 (.mv (.t 33))]) (.reg false [o 34 (.mv (.t 6)), o 4 (.mv (.t 34))]))) (.reg false [o 23 (.mv (.t 5)), o 24 (.bin .add (.t 23) (.c (.int .i64 1))), o 5 (.mv (.t 24))])))))) (.seq (.reg false [o 35 (.mv (.t 4)), o 36 (.call 24 [.t 35]), o 8 (.mv (.t 36))]) (.seq (.seq (.reg false [o 9 (.mv (.c (.int .i64 0)))]) (.block 2 (.loop (.seq (.seq (.reg false [o 37 (.mv (.t 9)), o 38 (.mv (.t 8)), o 39 (.len 1 (.t 38)), o 40 (.bin .lss (.t 37) (.t 39))]) (.cond (.t 40) .skip (.exit 2))) (.seq (.block 3 (.seq (.reg false [o 44 (.mv (.t 4)), o 45 (.call 18 [.t 44]), o 43 (.mv (.t 45)), o 46 (.ext (.t 43) 0), o 47 (.ext (.t 43) 1), o 10 (.new 3 (.agg [.int .i64 0, .int .u64 0, .int .u64 0])), s (.st 3 (.t 10) (.t 46)), o 11 (.mv (.t 47))]) (.seq (.reg false [o 49 (.mv (.t 4)), o 50 (.fa 0 (.t 10)), o 51 (.ld none (.t 50)), o 52 (.call 26 [.t 49, .t 51]), o 48 (.mv (.t 52)), o 53 (.ext (.t 48) 0), o 54 (.ext (.t 48) 1), o 12 (.mv (.t 53)), o 13 (.mv (.t 54))]) (.seq (.seq (.reg true [o 55 (.mv (.t 11)), o 56 (.un .not (.t 55)), o 57 (.mv (.t 56)), go 58 57 false (.ld (some 3) (.t 10)), go 59 57 false (.mv (.t 8)), go 60 57 false (.mv (.t 9)), go 61 57 false (.ia 3 (.t 59) (.t 60)), go 62 57 false (.ld (some 3) (.t 61)), go 63 57 false (.eqT true [0, 0, 0] (.t 58) (.t 62)), o 64 (.pick (.t 57) (.c (.bool true)) (.t 63)), o 65 (.mv (.t 64)), go 66 65 false (.mv (.t 13)), go 67 65 false (.bin .neq (.t 66) (.c (.int .i64 0))), o 68 (.pick (.t 65) (.c (.bool true)) (.t 67)), o 69 (.mv (.t 68)), go 70 69 false (.mv (.t 12)), go 71 69 false (.len 1 (.t 70)), go 72 69 false (.mv (.t 4)), go 73 69 false (.len 1 (.t 72)), go 74 69 false (.bin .sub (.t 73) (.c (.int .i64 1))), go 75 69 false (.bin .neq (.t 71) (.t 74)), o 76 (.pick (.t 69) (.c (.bool true)) (.t 75))]) (.cond (.t 76) (.seq (.reg false [o 2 (.mv (.c (.bool false)))]) .ret) .skip)) (.reg false [o 77 (.mv (.t 12)), o 4 (.mv (.t 77))]))))) (.reg false [o 41 (.mv (.t 9)), o 42 (.bin .add (.t 41) (.c (.int .i64 1))), o 9 (.mv (.t 42))])))))) (.seq (.reg false [o 78 (.mv (.t 3)), o 79 (.mv (.t 78)), go 80 79 true (.mv (.t 4)), go 81 79 true (.len 1 (.t 80)), go 82 79 true (.bin .eql (.t 81) (.c (.int .i64 0))), o 83 (.pick (.t 79) (.t 82) (.c (.bool false))), o 2 (.mv (.t 83))]) .ret)))))))
theorem comp5 : Compiled Try.prog 5 1 c5 [.t 2] := .fn Try.func5 (by kernel_rfl) (by kernel_rfl)
def c6 : MC := .seq (.reg false [o 4 (.box 3 (.t 1)), o 6 (.mv (.c (.bool false)))]) (.seq (.reg false [o 20 (.call 14 []), o 7 (.mv (.t 20))]) (.seq (.seq (.reg false [o 21 (.mv (.t 0)), o 22 (.len 1 (.t 21)), o 23 (.bin .gtr (.t 22) (.c (.int .i64 100)))]) (.cond (.t 23) (.seq (.reg false [o 24 (.mv (.t 7)), o 6 (.mv (.t 24))]) .ret) .skip)) (.seq (.reg false [o 8 (.mv (.c .nils))]) (.seq (.seq (.reg false [o 9 (.mv (.c (.int .i64 0)))]) (.block 0 (.loop (.seq (.seq (.reg false [o 25 (.mv (.t 9)), o 26 (.mv (.t 0)), o 27 (.len 1 (.t 26)), o 28 (.bin .lss (.t 25) (.t 27))]) (.cond (.t 28) .skip (.exit 0))) (.seq (.block 1 (.seq (.reg false [o 32 (.mv (.t 8)), o 33 (.mv (.t 0)), o 34 (.mv (.t 9)), o 35 (.ia 4 (.t 33) (.t 34)), o 36 (.ld (some 4) (.t 35)), o 37 (.call 27 [.t 32, .t 36]), o 31 (.mv (.t 37)), o 38 (.ext (.t 31) 0), o 39 (.ext (.t 31) 1), o 10 (.mv (.t 38)), o 11 (.mv (.t 39))]) (.reg false [o 40 (.mv (.t 10)), o 8 (.mv (.t 40))]))) (.reg false [o 29 (.mv (.t 9)), o 30 (.bin .add (.t 29) (.c (.int .i64 1))), o 9 (.mv (.t 30))])))))) (.seq (.reg false [o 42 (.mv (.t 8)), o 43 (.ld (some 3) (.t 4)), o 44 (.call 25 [.t 42, .t 43]), o 41 (.mv (.t 44)), o 45 (.ext (.t 41) 0), o 46 (.ext (.t 41) 1), o 12 (.mv (.t 45)), o 13 (.mv (.t 46))]) (.seq (.reg false [o 48 (.mv (.t 12)), o 49 (.fa 0 (.t 4)), o 50 (.ld none (.t 49)), o 51 (.call 16 [.t 48, .t 50]), o 47 (.mv (.t 51)), o 52 (.ext (.t 47) 0), o 53 (.ext (.t 47) 1), o 14 (.new 3 (.agg [.int .i64 0, .int .u64 0, .int .u64 0])), s (.st 3 (.t 14) (.t 52)), o 15 (.mv (.t 53))]) (.seq (.reg false [o 55 (.mv (.t 8)), o 56 (.mv (.t 2)), o 57 (.call 16 [.t 55, .t 56]), o 54 (.mv (.t 57)), o 58 (.ext (.t 54) 0), o 59 (.ext (.t 54) 1), o 16 (.new 3 (.agg [.int .i64 0, .int .u64 0, .int .u64 0])), s (.st 3 (.t 16) (.t 58)), o 17 (.mv (.t 59))]) (.seq (.reg false [o 61 (.mv (.t 12)), o 62 (.mv (.t 2)), o 63 (.call 16 [.t 61, .t 62]), o 60 (.mv (.t 63)), o 64 (.ext (.t 60) 0), o 65 (.ext (.t 60) 1), o 18 (.new 3 (.agg [.int .i64 0, .int .u64 0, .int .u64 0])), s (.st 3 (.t 18) (.t 64)), o 19 (.mv (.t 65))]) (.seq (.seq (.reg false [o 66 (.mv (.t 13)), o 67 (.bin .neq (.t 66) (.c (.int .i64 0)))]) (.cond (.t 67) (.seq (.reg false [o 68 (.mv (.t 7)), o 69 (.mv (.t 68)), go 70 69 true (.mv (.t 13)), go 71 69 true (.bin .eql (.t 70) (.c (.int .i64 110))), o 72 (.pick (.t 69) (.t 71) (.c (.bool false))), o 73 (.mv (.t 72)), go 74 73 true (.fa 0 (.t 4)), go 75 73 true (.ld none (.t 74)), go 76 73 true (.bin .lss (.t 75) (.c (.int .i64 0))), go 77 73 true (.mv (.t 76)), go 78 77 false (.fa 0 (.t 4)), go 79 77 false (.ld none (.t 78)), go 80 77 false (.bin .gtr (.t 79) (.c (.int .i64 63))), go 81 73 true (.pick (.t 77) (.c (.bool true)) (.t 80)), o 82 (.pick (.t 73) (.t 81) (.c (.bool false))), o 83 (.mv (.t 82)), go 84 83 true (.mv (.t 15)), go 85 83 true (.un .not (.t 84)), o 86 (.pick (.t 83) (.t 85) (.c (.bool false))), o 6 (.mv (.t 86))]) .ret) .skip)) (.seq (.reg false [o 87 (.mv (.t 7)), o 88 (.mv (.t 87)), go 89 88 true (.mv (.t 15)), o 90 (.pick (.t 88) (.t 89) (.c (.bool false))), o 91 (.mv (.t 90)), go 92 91 true (.ld (some 3) (.t 14)), go 93 91 true (.ld (some 3) (.t 4)), go 94 91 true (.eqT false [0, 0, 0] (.t 92) (.t 93)), o 95 (.pick (.t 91) (.t 94) (.c (.bool false))), o 96 (.mv (.t 95)), go 97 96 true (.mv (.t 2)), go 98 96 true (.fa 0 (.t 4)), go 99 96 true (.ld none (.t 98)), go 100 96 true (.bin .eql (.t 97) (.t 99)), go 101 96 true (.mv (.t 100)), go 102 101 false (.ld (some 3) (.t 16)), go 103 101 false (.ld (some 3) (.t 18)), go 104 101 false (.eqT false [0, 0, 0] (.t 102) (.t 103)), go 105 101 false (.mv (.t 104)), go 106 105 true (.mv (.t 17)), go 107 105 true (.mv (.t 19)), go 108 105 true (.eqB false (.t 106) (.t 107)), go 109 101 false (.pick (.t 105) (.t 108) (.c (.bool false))), go 110 96 true (.pick (.t 101) (.c (.bool true)) (.t 109)), o 111 (.pick (.t 96) (.t 110) (.c (.bool false))), o 112 (.mv (.t 111)), go 113 112 true (.mv (.t 12)), go 114 112 true (.len 1 (.t 113)), go 115 112 true (.mv (.t 8)), go 116 112 true (.len 1 (.t 115)), go 117 112 true (.bin .sub (.t 114) (.t 116)), go 118 112 true (.bin .leq (.t 117) (.c (.int .i64 1))), o 119 (.pick (.t 112) (.t 118) (.c (.bool false))), o 6 (.mv (.t 119))]) .ret))))))))))
theorem comp6 : Compiled Try.prog 6 3 c6 [.t 6] := .fn Try.func6 (by kernel_rfl) (by kernel_rfl)
def c7 : MC := .seq (.reg false [o 3 (.box 3 (.t 0)), o 4 (.box 3 (.t 1)), o 5 (.box 3 (.t 2)), o 6 (.mv (.c (.bool false)))]) (.seq (.reg false [o 9 (.call 14 []), o 7 (.mv (.t 9))]) (.seq (.reg false [o 10 (.ld (some 3) (.t 3)), o 11 (.ld (some 3) (.t 4)), o 12 (.call 21 [.t 10, .t 11]), o 13 (.un .not (.t 12)), o 14 (.mv (.t 13)), go 15 14 false (.ld (some 3) (.t 4)), go 16 14 false (.ld (some 3) (.t 5)), go 17 14 false (.call 21 [.t 15, .t 16]), go 18 14 false (.un .not (.t 17)), o 19 (.pick (.t 14) (.c (.bool true)) (.t 18)), o 20 (.mv (.t 19)), go 21 20 false (.ld (some 3) (.t 3)), go 22 20 false (.ld (some 3) (.t 5)), go 23 20 false (.call 21 [.t 21, .t 22]), o 24 (.pick (.t 20) (.c (.bool true)) (.t 23)), o 8 (.mv (.t 24))]) (.seq (.reg true [o 25 (.mv (.t 7)), o 26 (.mv (.t 25)), go 27 26 true (.ld (some 3) (.t 3)), go 28 26 true (.ld (some 3) (.t 4)), qq (some 29) (some (26, true)) (.call 21 [.t 27, .t 28]), go 30 26 true (.ld (some 3) (.t 4)), go 31 26 true (.ld (some 3) (.t 3)), qq (some 32) (some (26, true)) (.call 21 [.t 30, .t 31]), go 33 26 true (.eqB true (.t 29) (.t 32)), go 34 26 true (.ld (some 3) (.t 3)), go 35 26 true (.ld (some 3) (.t 4)), go 36 26 true (.eqT true [0, 0, 0] (.t 34) (.t 35)), go 37 26 true (.eqB false (.t 33) (.t 36)), o 38 (.pick (.t 26) (.t 37) (.c (.bool false))), o 39 (.mv (.t 38)), go 40 39 true (.mv (.t 8)), o 41 (.pick (.t 39) (.t 40) (.c (.bool false))), o 6 (.mv (.t 41))]) .ret)))
theorem comp7 : Compiled Try.prog 7 3 c7 [.t 6] := .fn Try.func7 (by kernel_rfl) (by kernel_rfl)
def c8 : MC := .seq (.reg false [o 3 (.box 3 (.t 1)), o 4 (.mv (.c (.bool false)))]) (.seq (.reg false [o 14 (.call 14 []), o 5 (.mv (.t 14))]) (.seq (.seq (.reg false [o 15 (.mv (.t 0)), o 16 (.len 1 (.t 15)), o 17 (.bin .gtr (.t 16) (.c (.int .i64 100))), o 18 (.mv (.t 17)), go 19 18 false (.mv (.t 0)), go 20 18 false (.call 19 [.t 19]), go 21 18 false (.un .not (.t 20)), o 22 (.pick (.t 18) (.c (.bool true)) (.t 21))]) (.cond (.t 22) (.seq (.reg false [o 23 (.mv (.t 5)), o 4 (.mv (.t 23))]) .ret) .skip)) (.seq (.reg false [o 25 (.mv (.t 0)), o 26 (.call 18 [.t 25]), o 24 (.mv (.t 26)), o 27 (.ext (.t 24) 0), o 28 (.ext (.t 24) 1), o 6 (.new 3 (.agg [.int .i64 0, .int .u64 0, .int .u64 0])), s (.st 3 (.t 6) (.t 27)), o 7 (.mv (.t 28))]) (.seq (.reg false [o 8 (.mv (.c (.bool true)))]) (.seq (.seq (.reg false [o 9 (.mv (.c (.int .i64 0)))]) (.block 0 (.loop (.seq (.seq (.reg false [o 29 (.mv (.t 9)), o 30 (.mv (.t 0)), o 31 (.len 1 (.t 30)), o 32 (.bin .lss (.t 29) (.t 31))]) (.cond (.t 32) .skip (.exit 0))) (.seq (.block 1 (.seq (.seq (.reg true [o 35 (.mv (.t 0)), o 36 (.mv (.t 9)), o 37 (.ia 3 (.t 35) (.t 36)), o 38 (.ld (some 3) (.t 37)), o 39 (.ld (some 3) (.t 6)), o 40 (.call 21 [.t 38, .t 39])]) (.cond (.t 40) (.seq (.reg false [o 4 (.mv (.c (.bool false)))]) .ret) .skip)) (.reg true [o 41 (.mv (.t 8)), o 42 (.mv (.t 41)), go 43 42 true (.ld (some 3) (.t 3)), go 44 42 true (.mv (.t 0)), go 45 42 true (.mv (.t 9)), go 46 42 true (.ia 3 (.t 44) (.t 45)), go 47 42 true (.ld (some 3) (.t 46)), go 48 42 true (.call 21 [.t 43, .t 47]), go 49 42 true (.mv (.t 48)), go 50 49 false (.mv (.t 0)), go 51 49 false (.mv (.t 9)), go 52 49 false (.ia 3 (.t 50) (.t 51)), go 53 49 false (.fa 0 (.t 52)), go 54 49 false (.ld none (.t 53)), go 55 49 false (.fa 0 (.t 3)), go 56 49 false (.ld none (.t 55)), go 57 49 false (.bin .eql (.t 54) (.t 56)), go 58 42 true (.pick (.t 49) (.c (.bool true)) (.t 57)), o 59 (.pick (.t 42) (.t 58) (.c (.bool false))), o 8 (.mv (.t 59))]))) (.reg false [o 33 (.mv (.t 9)), o 34 (.bin .add (.t 33) (.c (.int .i64 1))), o 9 (.mv (.t 34))])))))) (.seq (.reg false [o 61 (.mv (.t 0)), o 62 (.ld (some 3) (.t 3)), o 63 (.call 25 [.t 61, .t 62]), o 60 (.mv (.t 63)), o 64 (.ext (.t 60) 0), o 65 (.ext (.t 60) 1), o 10 (.mv (.t 64)), o 11 (.mv (.t 65))]) (.seq (.reg false [o 67 (.mv (.t 10)), o 68 (.call 18 [.t 67]), o 66 (.mv (.t 68)), o 69 (.ext (.t 66) 0), o 70 (.ext (.t 66) 1), o 12 (.new 3 (.agg [.int .i64 0, .int .u64 0, .int .u64 0])), s (.st 3 (.t 12) (.t 69)), o 13 (.mv (.t 70))]) (.seq (.reg false [o 71 (.mv (.t 5)), o 72 (.mv (.t 71)), go 73 72 true (.mv (.t 7)), go 74 72 true (.mv (.t 0)), go 75 72 true (.len 1 (.t 74)), go 76 72 true (.bin .gtr (.t 75) (.c (.int .i64 0))), go 77 72 true (.eqB false (.t 73) (.t 76)), o 78 (.pick (.t 72) (.t 77) (.c (.bool false))), o 79 (.mv (.t 78)), go 80 79 true (.mv (.t 11)), go 81 79 true (.bin .neq (.t 80) (.c (.int .i64 0))), go 82 79 true (.mv (.t 81)), go 83 82 false (.mv (.t 8)), go 84 82 false (.un .not (.t 83)), go 85 79 true (.pick (.t 82) (.c (.bool true)) (.t 84)), go 86 79 true (.mv (.t 85)), go 87 86 false (.mv (.t 13)), go 88 86 false (.mv (.t 87)), go 89 88 true (.ld (some 3) (.t 12)), go 90 88 true (.ld (some 3) (.t 3)), go 91 88 true (.eqT false [0, 0, 0] (.t 89) (.t 90)), go 92 86 false (.pick (.t 88) (.t 91) (.c (.bool false))), go 93 79 true (.pick (.t 86) (.c (.bool true)) (.t 92)), o 94 (.pick (.t 79) (.t 93) (.c (.bool false))), o 4 (.mv (.t 94))]) .ret))))))))
theorem comp8 : Compiled Try.prog 8 2 c8 [.t 4] := .fn Try.func8 (by kernel_rfl) (by kernel_rfl)
def c9 : MC := .seq (.reg false [o 6 (.mv (.c (.bool false)))]) (.seq (.reg false [o 12 (.call 31 []), o 7 (.mv (.t 12))]) (.seq (.seq (.reg false [o 13 (.mv (.t 0)), o 14 (.len 0 (.t 13)), o 15 (.bin .gtr (.t 14) (.c (.int .i64 1000))), o 16 (.mv (.t 15)), go 17 16 false (.mv (.t 1)), go 18 16 false (.call 32 [.t 17, .c (.int .i64 100)]), go 19 16 false (.un .not (.t 18)), o 20 (.pick (.t 16) (.c (.bool true)) (.t 19))]) (.cond (.t 20) (.seq (.reg false [o 21 (.mv (.t 7)), o 6 (.mv (.t 21))]) .ret) .skip)) (.seq (.reg false [o 23 (.mv (.t 1)), o 24 (.call 33 [.t 23]), o 22 (.mv (.t 24)), o 25 (.ext (.t 22) 0), o 26 (.ext (.t 22) 1), o 8 (.mv (.t 25)), o 9 (.mv (.t 26))]) (.seq (.reg false [o 28 (.mv (.t 1)), o 29 (.call 34 [.t 28]), o 27 (.mv (.t 29)), o 30 (.ext (.t 27) 0), o 31 (.ext (.t 27) 1), o 10 (.mv (.t 30)), o 11 (.mv (.t 31))]) (.seq (.reg false [o 32 (.mv (.t 7)), o 33 (.mv (.t 32)), go 34 33 true (.mv (.t 0)), go 35 33 true (.call 35 [.t 34]), go 36 33 true (.mv (.t 0)), go 37 33 true (.call 36 [.t 36]), go 38 33 true (.eqB false (.t 35) (.t 37)), o 39 (.pick (.t 33) (.t 38) (.c (.bool false))), o 40 (.mv (.t 39)), go 41 40 true (.mv (.t 8)), go 42 40 true (.mv (.t 10)), go 43 40 true (.call 37 [.t 41, .t 42]), o 44 (.pick (.t 40) (.t 43) (.c (.bool false))), o 45 (.mv (.t 44)), go 46 45 true (.mv (.t 9)), go 47 45 true (.mv (.t 11)), go 48 45 true (.bin .eql (.t 46) (.t 47)), o 49 (.pick (.t 45) (.t 48) (.c (.bool false))), o 50 (.mv (.t 49)), go 51 50 true (.mv (.t 0)), go 52 50 true (.call 38 [.t 51]), go 53 50 true (.mv (.t 0)), go 54 50 true (.call 39 [.t 53]), go 55 50 true (.bin .eql (.t 52) (.t 54)), o 56 (.pick (.t 50) (.t 55) (.c (.bool false))), o 57 (.mv (.t 56)), go 58 57 true (.mv (.t 0)), go 59 57 true (.mv (.t 2)), go 60 57 true (.call 40 [.t 58, .t 59]), go 61 57 true (.mv (.t 0)), go 62 57 true (.mv (.t 2)), go 63 57 true (.call 41 [.t 61, .t 62]), go 64 57 true (.bin .eql (.t 60) (.t 63)), o 65 (.pick (.t 57) (.t 64) (.c (.bool false))), o 6 (.mv (.t 65))]) .ret)))))
theorem comp9 : Compiled Try.prog 9 3 c9 [.t 6] := .fn Try.func9 (by kernel_rfl) (by kernel_rfl)
def c10 : MC := .seq (.reg false [o 4 (.mv (.c (.bool false)))]) (.seq (.reg false [o 16 (.call 31 []), o 5 (.mv (.t 16))]) (.seq (.seq (.reg false [o 17 (.mv (.t 0)), o 18 (.call 32 [.t 17, .c (.int .i64 100)]), o 19 (.un .not (.t 18))]) (.cond (.t 19) (.seq (.reg false [o 20 (.mv (.t 5)), o 4 (.mv (.t 20))]) .ret) .skip)) (.seq (.reg false [o 22 (.mv (.t 0)), o 23 (.call 33 [.t 22]), o 21 (.mv (.t 23)), o 24 (.ext (.t 21) 0), o 25 (.ext (.t 21) 1), o 6 (.mv (.t 24)), o 7 (.mv (.t 25))]) (.seq (.reg false [o 27 (.mv (.t 6)), o 28 (.call 33 [.t 27]), o 26 (.mv (.t 28)), o 29 (.ext (.t 26) 0), o 30 (.ext (.t 26) 1), o 8 (.mv (.t 29)), o 9 (.mv (.t 30))]) (.seq (.reg false [o 10 (.mv (.c .nils))]) (.seq (.seq (.reg false [o 11 (.mv (.c (.int .i64 0)))]) (.block 0 (.loop (.seq (.seq (.reg false [o 31 (.mv (.t 11)), o 32 (.mv (.t 0)), o 33 (.len 1 (.t 32)), o 34 (.bin .lss (.t 31) (.t 33))]) (.cond (.t 34) .skip (.exit 0))) (.seq (.block 1 (.reg false [o 37 (.mv (.t 10)), o 38 (.mv (.t 0)), o 39 (.mv (.t 11)), o 40 (.mv (.t 1)), o 41 (.cvi .i64 (.t 40)), o 42 (.bin .add (.t 39) (.t 41)), o 43 (.mv (.t 0)), o 44 (.len 1 (.t 43)), o 45 (.bin .rem (.t 42) (.t 44)), o 46 (.ia 1 (.t 38) (.t 45)), o 47 (.ld none (.t 46)), o 48 (.bslice 1 (.str []) 1 [(0, .t 47)]), o 49 (.app 1 16 (.str []) (.t 37) (.t 48)), o 10 (.mv (.t 49))])) (.reg false [o 35 (.mv (.t 11)), o 36 (.bin .add (.t 35) (.c (.int .i64 1))), o 11 (.mv (.t 36))])))))) (.seq (.reg false [o 51 (.mv (.t 10)), o 52 (.call 33 [.t 51]), o 50 (.mv (.t 52)), o 53 (.ext (.t 50) 0), o 54 (.ext (.t 50) 1), o 12 (.mv (.t 53)), o 13 (.mv (.t 54))]) (.seq (.seq (.reg false [o 55 (.mv (.t 7)), o 56 (.bin .neq (.t 55) (.c (.int .i64 0)))]) (.cond (.t 56) (.seq (.reg false [o 57 (.mv (.t 5)), o 58 (.mv (.t 57)), go 59 58 true (.mv (.t 7)), go 60 58 true (.bin .eql (.t 59) (.c (.int .i64 90))), o 61 (.pick (.t 58) (.t 60) (.c (.bool false))), o 62 (.mv (.t 61)), go 63 62 true (.mv (.t 13)), go 64 62 true (.mv (.t 7)), go 65 62 true (.bin .eql (.t 63) (.t 64)), o 66 (.pick (.t 62) (.t 65) (.c (.bool false))), o 67 (.mv (.t 66)), go 68 67 true (.mv (.t 6)), go 69 67 true (.len 1 (.t 68)), go 70 67 true (.bin .eql (.t 69) (.c (.int .i64 0))), o 71 (.pick (.t 67) (.t 70) (.c (.bool false))), o 72 (.mv (.t 71)), go 73 72 true (.mv (.t 12)), go 74 72 true (.len 1 (.t 73)), go 75 72 true (.bin .eql (.t 74) (.c (.int .i64 0))), o 76 (.pick (.t 72) (.t 75) (.c (.bool false))), o 4 (.mv (.t 76))]) .ret) .skip)) (.seq (.seq (.reg false [o 14 (.mv (.c (.int .i64 0)))]) (.block 2 (.loop (.seq (.seq (.reg false [o 77 (.mv (.t 14)), o 78 (.mv (.t 6)), o 79 (.len 1 (.t 78)), o 80 (.bin .lss (.t 77) (.t 79))]) (.cond (.t 80) .skip (.exit 2))) (.seq (.block 3 (.seq (.reg true [o 83 (.mv (.t 14)), o 84 (.bin .gtr (.t 83) (.c (.int .i64 0))), o 85 (.mv (.t 84)), go 86 85 true (.mv (.t 6)), go 87 85 true (.mv (.t 14)), go 88 85 true (.bin .sub (.t 87) (.c (.int .i64 1))), go 89 85 true (.ia 1 (.t 86) (.t 88)), go 90 85 true (.ld none (.t 89)), go 91 85 true (.mv (.t 6)), go 92 85 true (.mv (.t 14)), go 93 85 true (.ia 1 (.t 91) (.t 92)), go 94 85 true (.ld none (.t 93)), go 95 85 true (.bin .geq (.t 90) (.t 94)), o 96 (.pick (.t 85) (.t 95) (.c (.bool false))), o 97 (.mv (.t 96)), go 98 97 false (.mv (.t 0)), go 99 97 false (.mv (.t 6)), go 100 97 false (.mv (.t 14)), go 101 97 false (.ia 1 (.t 99) (.t 100)), go 102 97 false (.ld none (.t 101)), go 103 97 false (.call 42 [.t 98, .t 102]), go 104 97 false (.un .not (.t 103)), o 105 (.pick (.t 97) (.c (.bool true)) (.t 104)), o 106 (.mv (.t 105)), go 107 106 false (.mv (.t 6)), go 108 106 false (.mv (.t 14)), go 109 106 false (.ia 1 (.t 107) (.t 108)), go 110 106 false (.ld none (.t 109)), go 111 106 false (.len 0 (.t 110)), go 112 106 false (.bin .lss (.t 111) (.c (.int .i64 1))), o 113 (.pick (.t 106) (.c (.bool true)) (.t 112)), o 114 (.mv (.t 113)), go 115 114 false (.mv (.t 6)), go 116 114 false (.mv (.t 14)), go 117 114 false (.ia 1 (.t 115) (.t 116)), go 118 114 false (.ld none (.t 117)), go 119 114 false (.len 0 (.t 118)), go 120 114 false (.bin .gtr (.t 119) (.c (.int .i64 8))), o 121 (.pick (.t 114) (.c (.bool true)) (.t 120))]) (.cond (.t 121) (.seq (.reg false [o 4 (.mv (.c (.bool false)))]) .ret) .skip))) (.reg false [o 81 (.mv (.t 14)), o 82 (.bin .add (.t 81) (.c (.int .i64 1))), o 14 (.mv (.t 82))])))))) (.seq (.seq (.reg false [o 15 (.mv (.c (.int .i64 0)))]) (.block 4 (.loop (.seq (.seq (.reg false [o 122 (.mv (.t 15)), o 123 (.mv (.t 0)), o 124 (.len 1 (.t 123)), o 125 (.bin .lss (.t 122) (.t 124))]) (.cond (.t 125) .skip (.exit 4))) (.seq (.block 5 (.seq (.reg false [o 128 (.mv (.t 6)), o 129 (.mv (.t 0)), o 130 (.mv (.t 15)), o 131 (.ia 1 (.t 129) (.t 130)), o 132 (.ld none (.t 131)), o 133 (.call 42 [.t 128, .t 132]), o 134 (.un .not (.t 133))]) (.cond (.t 134) (.seq (.reg false [o 4 (.mv (.c (.bool false)))]) .ret) .skip))) (.reg false [o 126 (.mv (.t 15)), o 127 (.bin .add (.t 126) (.c (.int .i64 1))), o 15 (.mv (.t 127))])))))) (.seq (.reg false [o 135 (.mv (.t 5)), o 136 (.mv (.t 135)), go 137 136 true (.mv (.t 9)), go 138 136 true (.bin .eql (.t 137) (.c (.int .i64 0))), o 139 (.pick (.t 136) (.t 138) (.c (.bool false))), o 140 (.mv (.t 139)), go 141 140 true (.mv (.t 13)), go 142 140 true (.bin .eql (.t 141) (.c (.int .i64 0))), o 143 (.pick (.t 140) (.t 142) (.c (.bool false))), o 144 (.mv (.t 143)), go 145 144 true (.mv (.t 8)), go 146 144 true (.mv (.t 6)), go 147 144 true (.call 37 [.t 145, .t 146]), o 148 (.pick (.t 144) (.t 147) (.c (.bool false))), o 149 (.mv (.t 148)), go 150 149 true (.mv (.t 12)), go 151 149 true (.mv (.t 6)), go 152 149 true (.call 37 [.t 150, .t 151]), o 153 (.pick (.t 149) (.t 152) (.c (.bool false))), o 154 (.mv (.t 153)), go 155 154 true (.mv (.t 6)), go 156 154 true (.len 1 (.t 155)), go 157 154 true (.bin .leq (.t 156) (.c (.int .i64 3))), o 158 (.pick (.t 154) (.t 157) (.c (.bool false))), o 4 (.mv (.t 158))]) .ret)))))))))))
theorem comp10 : Compiled Try.prog 10 2 c10 [.t 4] := .fn Try.func10 (by kernel_rfl) (by kernel_rfl)
def c11 : MC := .seq (.reg false [o 2 (.mv (.c (.bool false)))]) (.seq (.reg false [o 9 (.call 31 []), o 3 (.mv (.t 9))]) (.seq (.seq (.reg false [o 10 (.mv (.t 0)), o 11 (.call 32 [.t 10, .c (.int .i64 100)]), o 12 (.un .not (.t 11))]) (.cond (.t 12) (.seq (.reg false [o 13 (.mv (.t 3)), o 2 (.mv (.t 13))]) .ret) .skip)) (.seq (.reg false [o 15 (.mv (.t 0)), o 16 (.call 33 [.t 15]), o 14 (.mv (.t 16)), o 17 (.ext (.t 14) 0), o 18 (.ext (.t 14) 1), o 4 (.mv (.t 17)), o 5 (.mv (.t 18))]) (.seq (.reg false [o 6 (.mv (.c (.int .i64 0)))]) (.seq (.reg false [o 7 (.mv (.c (.bool true)))]) (.seq (.seq (.reg false [o 8 (.mv (.c (.int .i64 0)))]) (.block 0 (.loop (.seq (.seq (.reg false [o 19 (.mv (.t 8)), o 20 (.mv (.t 0)), o 21 (.len 1 (.t 20)), o 22 (.bin .lss (.t 19) (.t 21))]) (.cond (.t 22) .skip (.exit 0))) (.seq (.block 1 (.seq (.reg false [o 25 (.mv (.t 7)), o 26 (.mv (.t 25)), go 27 26 true (.mv (.t 0)), go 28 26 true (.mv (.t 8)), go 29 26 true (.ia 1 (.t 27) (.t 28)), go 30 26 true (.ld none (.t 29)), go 31 26 true (.len 0 (.t 30)), go 32 26 true (.bin .geq (.t 31) (.c (.int .i64 1))), o 33 (.pick (.t 26) (.t 32) (.c (.bool false))), o 34 (.mv (.t 33)), go 35 34 true (.mv (.t 0)), go 36 34 true (.mv (.t 8)), go 37 34 true (.ia 1 (.t 35) (.t 36)), go 38 34 true (.ld none (.t 37)), go 39 34 true (.len 0 (.t 38)), go 40 34 true (.bin .leq (.t 39) (.c (.int .i64 8))), o 41 (.pick (.t 34) (.t 40) (.c (.bool false))), o 7 (.mv (.t 41))]) (.seq (.reg true [o 42 (.mv (.t 0)), o 43 (.mv (.t 8)), o 44 (.sl 1 (.t 42) none (some (.t 43)) none), o 45 (.mv (.t 0)), o 46 (.mv (.t 8)), o 47 (.ia 1 (.t 45) (.t 46)), o 48 (.ld none (.t 47)), o 49 (.call 42 [.t 44, .t 48]), o 50 (.un .not (.t 49))]) (.cond (.t 50) (.reg false [o 51 (.mv (.t 6)), o 52 (.bin .add (.t 51) (.c (.int .i64 1))), o 6 (.mv (.t 52))]) .skip)))) (.reg false [o 23 (.mv (.t 8)), o 24 (.bin .add (.t 23) (.c (.int .i64 1))), o 8 (.mv (.t 24))])))))) (.seq (.reg false [o 53 (.mv (.t 3)), o 54 (.mv (.t 53)), go 55 54 true (.mv (.t 5)), go 56 54 true (.bin .eql (.t 55) (.c (.int .i64 0))), go 57 54 true (.mv (.t 7)), go 58 54 true (.mv (.t 57)), go 59 58 true (.mv (.t 6)), go 60 58 true (.bin .leq (.t 59) (.c (.int .i64 3))), go 61 54 true (.pick (.t 58) (.t 60) (.c (.bool false))), go 62 54 true (.eqB false (.t 56) (.t 61)), o 63 (.pick (.t 54) (.t 62) (.c (.bool false))), o 2 (.mv (.t 63))]) .ret)))))))
theorem comp11 : Compiled Try.prog 11 1 c11 [.t 2] := .fn Try.func11 (by kernel_rfl) (by kernel_rfl)
def c12 : MC := .seq (.reg false [o 6 (.mv (.c (.bool false)))]) (.seq (.reg false [o 11 (.call 31 []), o 7 (.mv (.t 11))]) (.seq (.seq (.reg false [o 12 (.mv (.t 0)), o 13 (.len 0 (.t 12)), o 14 (.bin .gtr (.t 13) (.c (.int .i64 1000)))]) (.cond (.t 14) (.seq (.reg false [o 15 (.mv (.t 7)), o 6 (.mv (.t 15))]) .ret) .skip)) (.seq (.reg false [o 16 (.mv (.t 0)), o 17 (.call 38 [.t 16]), o 8 (.mv (.t 17))]) (.seq (.reg false [o 18 (.mv (.t 0)), o 19 (.mv (.t 1)), o 20 (.bslice 1 (.int .u8 0) 1 [(0, .t 19)]), o 21 (.b2s (.t 20)), o 22 (.bin .add (.t 18) (.t 21)), o 23 (.call 38 [.t 22]), o 9 (.mv (.t 23))]) (.seq (.reg false [o 24 (.mv (.t 0)), o 25 (.mv (.t 2)), o 26 (.bslice 1 (.int .u8 0) 1 [(0, .t 25)]), o 27 (.b2s (.t 26)), o 28 (.bin .add (.t 24) (.t 27)), o 29 (.call 38 [.t 28]), o 10 (.mv (.t 29))]) (.seq (.reg false [o 30 (.mv (.t 7)), o 31 (.mv (.t 30)), go 32 31 true (.mv (.t 9)), go 33 31 true (.mv (.t 8)), go 34 31 true (.mv (.t 1)), go 35 31 true (.cvi .u64 (.t 34)), go 36 31 true (.bin .xor (.t 33) (.t 35)), go 37 31 true (.bin .mul (.t 36) (.c (.int .u64 1099511628211))), go 38 31 true (.bin .eql (.t 32) (.t 37)), o 39 (.pick (.t 31) (.t 38) (.c (.bool false))), o 40 (.mv (.t 39)), go 41 40 true (.mv (.t 9)), go 42 40 true (.mv (.t 10)), go 43 40 true (.bin .eql (.t 41) (.t 42)), go 44 40 true (.mv (.t 1)), go 45 40 true (.mv (.t 2)), go 46 40 true (.bin .eql (.t 44) (.t 45)), go 47 40 true (.eqB false (.t 43) (.t 46)), o 48 (.pick (.t 40) (.t 47) (.c (.bool false))), o 6 (.mv (.t 48))]) .ret))))))
theorem comp12 : Compiled Try.prog 12 3 c12 [.t 6] := .fn Try.func12 (by kernel_rfl) (by kernel_rfl)
def c13 : MC := .seq (.reg false [o 6 (.mv (.c (.bool false)))]) (.seq (.reg false [o 11 (.call 31 []), o 7 (.mv (.t 11))]) (.seq (.seq (.reg false [o 12 (.mv (.t 0)), o 13 (.len 0 (.t 12)), o 14 (.bin .gtr (.t 13) (.c (.int .i64 1000)))]) (.cond (.t 14) (.seq (.reg false [o 15 (.mv (.t 7)), o 6 (.mv (.t 15))]) .ret) .skip)) (.seq (.reg false [o 16 (.mv (.t 0)), o 17 (.mv (.t 1)), o 18 (.call 40 [.t 16, .t 17]), o 8 (.mv (.t 18))]) (.seq (.reg false [o 19 (.mv (.t 2)), o 20 (.bin .rem (.t 19) (.c (.int .u8 60))), o 21 (.bin .shl (.c (.int .i64 1)) (.t 20)), o 9 (.mv (.t 21))]) (.seq (.reg false [o 22 (.mv (.t 0)), o 23 (.mv (.t 9)), o 24 (.call 40 [.t 22, .t 23]), o 10 (.mv (.t 24))]) (.seq (.reg false [o 25 (.mv (.t 7)), o 26 (.mv (.t 25)), go 27 26 true (.mv (.t 8)), go 28 26 true (.bin .geq (.t 27) (.c (.int .i64 0))), o 29 (.pick (.t 26) (.t 28) (.c (.bool false))), o 30 (.mv (.t 29)), go 31 30 true (.mv (.t 1)), go 32 30 true (.bin .lss (.t 31) (.c (.int .i64 1))), go 33 30 true (.mv (.t 32)), go 34 33 true (.mv (.t 8)), go 35 33 true (.bin .eql (.t 34) (.c (.int .i64 0))), go 36 30 true (.pick (.t 33) (.t 35) (.c (.bool false))), go 37 30 true (.mv (.t 36)), go 38 37 false (.mv (.t 1)), go 39 37 false (.bin .geq (.t 38) (.c (.int .i64 1))), go 40 37 false (.mv (.t 39)), go 41 40 true (.mv (.t 8)), go 42 40 true (.mv (.t 1)), go 43 40 true (.bin .lss (.t 41) (.t 42)), go 44 37 false (.pick (.t 40) (.t 43) (.c (.bool false))), go 45 30 true (.pick (.t 37) (.c (.bool true)) (.t 44)), o 46 (.pick (.t 30) (.t 45) (.c (.bool false))), o 47 (.mv (.t 46)), go 48 47 true (.mv (.t 10)), go 49 47 true (.cvi .u64 (.t 48)), go 50 47 true (.mv (.t 0)), go 51 47 true (.call 38 [.t 50]), go 52 47 true (.mv (.t 9)), go 53 47 true (.bin .sub (.t 52) (.c (.int .i64 1))), go 54 47 true (.cvi .u64 (.t 53)), go 55 47 true (.bin .and (.t 51) (.t 54)), go 56 47 true (.bin .eql (.t 49) (.t 55)), o 57 (.pick (.t 47) (.t 56) (.c (.bool false))), o 58 (.mv (.t 57)), go 59 58 true (.mv (.t 0)), go 60 58 true (.call 40 [.t 59, .c (.int .i64 1)]), go 61 58 true (.bin .eql (.t 60) (.c (.int .i64 0))), o 62 (.pick (.t 58) (.t 61) (.c (.bool false))), o 6 (.mv (.t 62))]) .ret))))))
theorem comp13 : Compiled Try.prog 13 3 c13 [.t 6] := .fn Try.func13 (by kernel_rfl) (by kernel_rfl)
def c14 : MC := .seq (.reg false [o 0 (.mv (.c (.bool false)))]) (.seq (.reg false [o 20 (.build [.int .i64 0, .int .u64 0, .int .u64 0] [(0, (1, .c (.int .i64 5))), (1, (1, .c (.int .u64 7)))]), o 21 (.call 25 [.c .nils, .t 20]), o 19 (.mv (.t 21)), o 22 (.ext (.t 19) 0), o 23 (.ext (.t 19) 1), o 1 (.mv (.t 22)), o 2 (.mv (.t 23))]) (.seq (.reg false [o 25 (.mv (.t 1)), o 26 (.build [.int .i64 0, .int .u64 0, .int .u64 0] [(0, (1, .c (.int .i64 9))), (1, (1, .c (.int .u64 8)))]), o 27 (.call 25 [.t 25, .t 26]), o 24 (.mv (.t 27)), o 28 (.ext (.t 24) 0), o 29 (.ext (.t 24) 1), o 1 (.mv (.t 28))]) (.seq (.reg false [o 31 (.mv (.t 1)), o 32 (.build [.int .i64 0, .int .u64 0, .int .u64 0] [(0, (1, .c (.int .i64 3))), (1, (1, .c (.int .u64 7)))]), o 33 (.call 25 [.t 31, .t 32]), o 30 (.mv (.t 33)), o 34 (.ext (.t 30) 0), o 35 (.ext (.t 30) 1), o 1 (.mv (.t 34))]) (.seq (.reg false [o 37 (.mv (.t 1)), o 38 (.build [.int .i64 0, .int .u64 0, .int .u64 0] [(0, (1, .c (.int .i64 64)))]), o 39 (.call 25 [.t 37, .t 38]), o 36 (.mv (.t 39)), o 40 (.ext (.t 36) 0), o 41 (.ext (.t 36) 1), o 3 (.mv (.t 40)), o 4 (.mv (.t 41))]) (.seq (.reg false [o 43 (.mv (.t 1)), o 44 (.call 18 [.t 43]), o 42 (.mv (.t 44)), o 45 (.ext (.t 42) 0), o 46 (.ext (.t 42) 1), o 5 (.new 3 (.agg [.int .i64 0, .int .u64 0, .int .u64 0])), s (.st 3 (.t 5) (.t 45)), o 6 (.mv (.t 46))]) (.seq (.reg false [o 48 (.mv (.t 1)), o 49 (.call 26 [.t 48, .c (.int .i64 3)]), o 47 (.mv (.t 49)), o 50 (.ext (.t 47) 0), o 51 (.ext (.t 47) 1), o 7 (.mv (.t 50)), o 8 (.mv (.t 51))]) (.seq (.reg false [o 53 (.mv (.t 7)), o 54 (.call 18 [.t 53]), o 52 (.mv (.t 54)), o 55 (.ext (.t 52) 0), o 56 (.ext (.t 52) 1), o 9 (.new 3 (.agg [.int .i64 0, .int .u64 0, .int .u64 0])), s (.st 3 (.t 9) (.t 55)), o 10 (.mv (.t 56))]) (.seq (.reg false [o 58 (.mv (.t 7)), o 59 (.call 26 [.t 58, .c (.int .i64 3)]), o 57 (.mv (.t 59)), o 60 (.ext (.t 57) 0), o 61 (.ext (.t 57) 1), o 11 (.mv (.t 60)), o 12 (.mv (.t 61))]) (.seq (.reg false [o 63 (.mv (.t 7)), o 64 (.call 16 [.t 63, .c (.int .i64 9)]), o 62 (.mv (.t 64)), o 65 (.ext (.t 62) 0), o 66 (.ext (.t 62) 1), o 13 (.new 3 (.agg [.int .i64 0, .int .u64 0, .int .u64 0])), s (.st 3 (.t 13) (.t 65)), o 14 (.mv (.t 66))]) (.seq (.reg false [o 68 (.mv (.t 7)), o 69 (.call 16 [.t 68, .c (.int .i64 3)]), o 67 (.mv (.t 69)), o 70 (.ext (.t 67) 0), o 71 (.ext (.t 67) 1), o 15 (.new 3 (.agg [.int .i64 0, .int .u64 0, .int .u64 0])), s (.st 3 (.t 15) (.t 70)), o 16 (.mv (.t 71))]) (.seq (.reg false [o 73 (.call 18 [.c .nils]), o 72 (.mv (.t 73)), o 74 (.ext (.t 72) 0), o 75 (.ext (.t 72) 1), o 17 (.new 3 (.agg [.int .i64 0, .int .u64 0, .int .u64 0])), s (.st 3 (.t 17) (.t 74)), o 18 (.mv (.t 75))]) (.seq (.reg false [o 76 (.mv (.t 2)), o 77 (.bin .eql (.t 76) (.c (.int .i64 0))), o 78 (.mv (.t 77)), go 79 78 true (.mv (.t 4)), go 80 78 true (.bin .eql (.t 79) (.c (.int .i64 110))), o 81 (.pick (.t 78) (.t 80) (.c (.bool false))), o 82 (.mv (.t 81)), go 83 82 true (.fa 0 (.t 5)), go 84 82 true (.ld none (.t 83)), go 85 82 true (.bin .eql (.t 84) (.c (.int .i64 3))), o 86 (.pick (.t 82) (.t 85) (.c (.bool false))), o 87 (.mv (.t 86)), go 88 87 true (.mv (.t 6)), o 89 (.pick (.t 87) (.t 88) (.c (.bool false))), o 90 (.mv (.t 89)), go 91 90 true (.mv (.t 8)), go 92 90 true (.bin .eql (.t 91) (.c (.int .i64 0))), o 93 (.pick (.t 90) (.t 92) (.c (.bool false))), o 94 (.mv (.t 93)), go 95 94 true (.fa 0 (.t 9)), go 96 94 true (.ld none (.t 95)), go 97 94 true (.bin .eql (.t 96) (.c (.int .i64 5))), o 98 (.pick (.t 94) (.t 97) (.c (.bool false))), o 99 (.mv (.t 98)), go 100 99 true (.mv (.t 12)), go 101 99 true (.bin .eql (.t 100) (.c (.int .i64 120))), o 102 (.pick (.t 99) (.t 101) (.c (.bool false))), o 103 (.mv (.t 102)), go 104 103 true (.fa 1 (.t 13)), go 105 103 true (.ld none (.t 104)), go 106 103 true (.bin .eql (.t 105) (.c (.int .u64 8))), o 107 (.pick (.t 103) (.t 106) (.c (.bool false))), o 108 (.mv (.t 107)), go 109 108 true (.mv (.t 14)), o 110 (.pick (.t 108) (.t 109) (.c (.bool false))), o 111 (.mv (.t 110)), go 112 111 true (.mv (.t 16)), go 113 111 true (.un .not (.t 112)), o 114 (.pick (.t 111) (.t 113) (.c (.bool false))), o 115 (.mv (.t 114)), go 116 115 true (.mv (.t 18)), go 117 115 true (.un .not (.t 116)), o 118 (.pick (.t 115) (.t 117) (.c (.bool false))), o 119 (.mv (.t 118)), go 120 119 true (.mv (.t 1)), go 121 119 true (.call 24 [.t 120]), go 122 119 true (.build [.int .i64 0, .int .u64 0, .int .u64 0] [(0, (1, .c (.int .i64 3))), (1, (1, .c (.int .u64 7)))]), go 123 119 true (.build [.int .i64 0, .int .u64 0, .int .u64 0] [(0, (1, .c (.int .i64 5))), (1, (1, .c (.int .u64 7)))]), go 124 119 true (.build [.int .i64 0, .int .u64 0, .int .u64 0] [(0, (1, .c (.int .i64 9))), (1, (1, .c (.int .u64 8)))]), go 125 119 true (.bslice 3 (.agg [.int .i64 0, .int .u64 0, .int .u64 0]) 3 [(0, .t 122), (1, .t 123), (2, .t 124)]), go 126 119 true (.call 23 [.t 121, .t 125]), o 127 (.pick (.t 119) (.t 126) (.c (.bool false))), o 128 (.mv (.t 127)), go 129 128 true (.mv (.t 1)), go 130 128 true (.call 19 [.t 129]), o 131 (.pick (.t 128) (.t 130) (.c (.bool false))), o 132 (.mv (.t 131)), go 133 132 true (.build [.int .i64 0, .int .u64 0, .int .u64 0] [(0, (1, .c (.int .i64 1))), (1, (1, .c (.int .u64 2)))]), go 134 132 true (.build [.int .i64 0, .int .u64 0, .int .u64 0] [(0, (1, .c (.int .i64 2))), (1, (1, .c (.int .u64 1)))]), go 135 132 true (.bslice 3 (.agg [.int .i64 0, .int .u64 0, .int .u64 0]) 2 [(0, .t 133), (1, .t 134)]), go 136 132 true (.call 19 [.t 135]), go 137 132 true (.un .not (.t 136)), o 138 (.pick (.t 132) (.t 137) (.c (.bool false))), o 139 (.mv (.t 138)), go 140 139 true (.build [.int .i64 0, .int .u64 0, .int .u64 0] [(0, (1, .c (.int .i64 9))), (1, (1, .c (.int .u64 1))), (2, (1, .c (.int .u64 2)))]), go 141 139 true (.build [.int .i64 0, .int .u64 0, .int .u64 0] [(0, (1, .c (.int .i64 1))), (1, (1, .c (.int .u64 1))), (2, (1, .c (.int .u64 3)))]), go 142 139 true (.call 21 [.t 140, .t 141]), o 143 (.pick (.t 139) (.t 142) (.c (.bool false))), o 0 (.mv (.t 143))]) .ret))))))))))))
theorem comp14 : Compiled Try.prog 14 0 c14 [.t 0] := .fn Try.func14 (by kernel_rfl) (by kernel_rfl)
def c15 : MC := .seq (.reg false [o 2 (.mv (.c .nils))]) (.seq (.reg false [o 6 (.mv (.t 0)), o 7 (.call 20 [.t 6]), o 3 (.mv (.t 7))]) (.seq (.reg false [o 4 (.mv (.c .nils))]) (.seq (.seq (.reg false [o 5 (.mv (.c (.int .i64 0)))]) (.block 0 (.loop (.seq (.seq (.reg false [o 8 (.mv (.t 5)), o 9 (.mv (.t 0)), o 10 (.len 1 (.t 9)), o 11 (.bin .lss (.t 8) (.t 10)), o 12 (.mv (.t 11)), go 13 12 true (.mv (.t 3)), o 14 (.pick (.t 12) (.t 13) (.c (.bool false)))]) (.cond (.t 14) .skip (.exit 0))) (.seq (.block 1 (.reg false [o 17 (.mv (.t 4)), o 18 (.mv (.t 0)), o 19 (.mv (.t 5)), o 20 (.ia 3 (.t 18) (.t 19)), o 21 (.ld (some 3) (.t 20)), o 22 (.call 30 [.t 17, .t 21]), o 4 (.mv (.t 22))])) (.reg false [o 15 (.mv (.t 5)), o 16 (.bin .add (.t 15) (.c (.int .i64 1))), o 5 (.mv (.t 16))])))))) (.seq (.reg false [o 23 (.mv (.t 4)), o 2 (.mv (.t 23))]) .ret))))
theorem comp15 : Compiled Try.prog 15 1 c15 [.t 2] := .fn Try.func15 (by kernel_rfl) (by kernel_rfl)
def c16 : MC := .seq (.reg false [o 4 (.new 3 (.agg [.int .i64 0, .int .u64 0, .int .u64 0])), o 5 (.mv (.c (.bool false)))]) (.seq (.reg false [o 7 (.mv (.t 0)), o 8 (.mv (.t 1)), o 9 (.call 43 [.t 7, .t 8]), o 6 (.mv (.t 9))]) (.seq (.seq (.reg false [o 10 (.mv (.t 0)), o 11 (.call 19 [.t 10]), o 12 (.un .not (.t 11)), o 13 (.mv (.t 12)), go 14 13 false (.mv (.t 6)), go 15 13 false (.bin .lss (.t 14) (.c (.int .i64 0))), o 16 (.pick (.t 13) (.c (.bool true)) (.t 15))]) (.cond (.t 16) (.seq (.reg false [o 17 (.build [.int .i64 0, .int .u64 0, .int .u64 0] []), s (.st 3 (.t 4) (.t 17)), o 5 (.mv (.c (.bool false)))]) .ret) .skip)) (.seq (.reg false [o 18 (.mv (.t 0)), o 19 (.mv (.t 6)), o 20 (.ia 3 (.t 18) (.t 19)), o 21 (.ld (some 3) (.t 20)), s (.st 3 (.t 4) (.t 21)), o 5 (.mv (.c (.bool true)))]) .ret)))
theorem comp16 : Compiled Try.prog 16 2 c16 [.c (some 3) 4, .t 5] := .fn Try.func16 (by kernel_rfl) (by kernel_rfl)
def c17 : MC := .seq (.reg false [o 4 (.new 3 (.agg [.int .i64 0, .int .u64 0, .int .u64 0])), o 5 (.mv (.c (.bool false)))]) (.seq (.seq (.reg false [o 6 (.mv (.c (.int .i64 0)))]) (.block 0 (.loop (.seq (.seq (.reg false [o 7 (.mv (.t 6)), o 8 (.mv (.t 0)), o 9 (.len 1 (.t 8)), o 10 (.bin .lss (.t 7) (.t 9))]) (.cond (.t 10) .skip (.exit 0))) (.seq (.block 1 (.seq (.reg false [o 13 (.mv (.t 0)), o 14 (.mv (.t 6)), o 15 (.ia 3 (.t 13) (.t 14)), o 16 (.fa 0 (.t 15)), o 17 (.ld none (.t 16)), o 18 (.mv (.t 1)), o 19 (.bin .eql (.t 17) (.t 18))]) (.cond (.t 19) (.seq (.reg false [o 20 (.mv (.t 0)), o 21 (.mv (.t 6)), o 22 (.ia 3 (.t 20) (.t 21)), o 23 (.ld (some 3) (.t 22)), s (.st 3 (.t 4) (.t 23)), o 5 (.mv (.c (.bool true)))]) .ret) .skip))) (.reg false [o 11 (.mv (.t 6)), o 12 (.bin .add (.t 11) (.c (.int .i64 1))), o 6 (.mv (.t 12))])))))) (.seq (.reg false [o 24 (.build [.int .i64 0, .int .u64 0, .int .u64 0] []), s (.st 3 (.t 4) (.t 24)), o 5 (.mv (.c (.bool false)))]) .ret))
theorem comp17 : Compiled Try.prog 17 2 c17 [.c (some 3) 4, .t 5] := .fn Try.func17 (by kernel_rfl) (by kernel_rfl)
def c18 : MC := .seq (.reg false [o 2 (.new 3 (.agg [.int .i64 0, .int .u64 0, .int .u64 0])), o 3 (.mv (.c (.bool false)))]) (.seq (.seq (.reg false [o 4 (.mv (.t 0)), o 5 (.call 19 [.t 4]), o 6 (.un .not (.t 5)), o 7 (.mv (.t 6)), go 8 7 false (.mv (.t 0)), go 9 7 false (.len 1 (.t 8)), go 10 7 false (.bin .eql (.t 9) (.c (.int .i64 0))), o 11 (.pick (.t 7) (.c (.bool true)) (.t 10))]) (.cond (.t 11) (.seq (.reg false [o 12 (.build [.int .i64 0, .int .u64 0, .int .u64 0] []), s (.st 3 (.t 2) (.t 12)), o 3 (.mv (.c (.bool false)))]) .ret) .skip)) (.seq (.reg false [o 13 (.mv (.t 0)), o 14 (.ia 3 (.t 13) (.c (.int .i64 0))), o 15 (.ld (some 3) (.t 14)), s (.st 3 (.t 2) (.t 15)), o 3 (.mv (.c (.bool true)))]) .ret))
theorem comp18 : Compiled Try.prog 18 1 c18 [.c (some 3) 2, .t 3] := .fn Try.func18 (by kernel_rfl) (by kernel_rfl)
def c19 : MC := .seq (.reg false [o 2 (.mv (.c (.bool false)))]) (.seq (.reg false [o 3 (.new 64 (.agg [.bool false, .bool false, .bool false, .bool false, .bool false, .bool false, .bool false, .bool false, .bool false, .bool false, .bool false, .bool false, .bool false, .bool false, .bool false, .bool false, .bool false, .bool false, .bool false, .bool false, .bool false, .bool false, .bool false, .bool false, .bool false, .bool false, .bool false, .bool false, .bool false, .bool false, .bool false, .bool false, .bool false, .bool false, .bool false, .bool false, .bool false, .bool false, .bool false, .bool false, .bool false, .bool false, .bool false, .bool false, .bool false, .bool false, .bool false, .bool false, .bool false, .bool false, .bool false, .bool false, .bool false, .bool false, .bool false, .bool false, .bool false, .bool false, .bool false, .bool false, .bool false, .bool false, .bool false, .bool false]))]) (.seq (.seq (.reg false [o 6 (.mv (.t 0)), o 7 (.len 1 (.t 6)), o 8 (.bin .gtr (.t 7) (.c (.int .i64 64)))]) (.cond (.t 8) (.seq (.reg false [o 2 (.mv (.c (.bool false)))]) .ret) .skip)) (.seq (.seq (.reg false [o 9 (.mv (.t 0)), o 10 (.len 1 (.t 9)), o 11 (.mv (.c (.int .i64 0)))]) (.block 0 (.loop (.seq (.reg false [o 12 (.bin .lss (.t 11) (.t 10))]) (.seq (.cond (.t 12) .skip (.exit 0)) (.seq (.block 1 (.seq (.reg false [o 13 (.mv (.t 11)), o 14 (.ia 3 (.t 9) (.t 11)), o 15 (.ld (some 3) (.t 14)), o 5 (.new 3 (.agg [.int .i64 0, .int .u64 0, .int .u64 0])), o 4 (.mv (.t 13)), s (.st 3 (.t 5) (.t 15))]) (.seq (.seq (.reg true [o 16 (.fa 0 (.t 5)), o 17 (.ld none (.t 16)), o 18 (.bin .lss (.t 17) (.c (.int .i64 0))), o 19 (.mv (.t 18)), go 20 19 false (.fa 0 (.t 5)), go 21 19 false (.ld none (.t 20)), go 22 19 false (.bin .geq (.t 21) (.c (.int .i64 64))), o 23 (.pick (.t 19) (.c (.bool true)) (.t 22)), o 24 (.mv (.t 23)), go 25 24 false (.fa 0 (.t 5)), go 26 24 false (.ld none (.t 25)), go 27 24 false (.iaA 64 1 (.t 3) (.t 26)), go 28 24 false (.ld none (.t 27)), o 29 (.pick (.t 24) (.c (.bool true)) (.t 28)), o 30 (.mv (.t 29)), go 31 30 false (.mv (.t 4)), go 32 30 false (.bin .gtr (.t 31) (.c (.int .i64 0))), go 33 30 false (.mv (.t 32)), go 34 33 true (.ld (some 3) (.t 5)), go 35 33 true (.mv (.t 0)), go 36 33 true (.mv (.t 4)), qq (some 37) (some (33, true)) (.call 44 [.t 36]), go 38 33 true (.ia 3 (.t 35) (.t 37)), go 39 33 true (.ld (some 3) (.t 38)), go 40 33 true (.call 21 [.t 34, .t 39]), go 41 30 false (.pick (.t 33) (.t 40) (.c (.bool false))), o 42 (.pick (.t 30) (.c (.bool true)) (.t 41))]) (.cond (.t 42) (.seq (.reg false [o 2 (.mv (.c (.bool false)))]) .ret) .skip)) (.reg false [o 43 (.fa 0 (.t 5)), o 44 (.ld none (.t 43)), o 45 (.iaA 64 1 (.t 3) (.t 44)), s (.st 1 (.t 45) (.c (.bool true)))])))) (.reg false [o 46 (.bin .add (.t 11) (.c (.int .i64 1))), o 11 (.mv (.t 46))]))))))) (.seq (.reg false [o 2 (.mv (.c (.bool true)))]) .ret))))
theorem comp19 : Compiled Try.prog 19 1 c19 [.t 2] := .fn Try.func19 (by kernel_rfl) (by kernel_rfl)
def c20 : MC := .seq (.reg false [o 2 (.mv (.c (.bool false)))]) (.seq (.seq (.reg false [o 3 (.mv (.c (.int .i64 0)))]) (.block 0 (.loop (.seq (.seq (.reg false [o 6 (.mv (.t 3)), o 7 (.mv (.t 0)), o 8 (.len 1 (.t 7)), o 9 (.bin .lss (.t 6) (.t 8))]) (.cond (.t 9) .skip (.exit 0))) (.seq (.block 1 (.seq (.seq (.reg false [o 12 (.mv (.t 0)), o 13 (.mv (.t 3)), o 14 (.ia 3 (.t 12) (.t 13)), o 15 (.fa 0 (.t 14)), o 16 (.ld none (.t 15)), o 17 (.bin .lss (.t 16) (.c (.int .i64 0))), o 18 (.mv (.t 17)), go 19 18 false (.mv (.t 0)), go 20 18 false (.mv (.t 3)), go 21 18 false (.ia 3 (.t 19) (.t 20)), go 22 18 false (.fa 0 (.t 21)), go 23 18 false (.ld none (.t 22)), go 24 18 false (.bin .gtr (.t 23) (.c (.int .i64 63))), o 25 (.pick (.t 18) (.c (.bool true)) (.t 24))]) (.cond (.t 25) (.seq (.reg false [o 2 (.mv (.c (.bool false)))]) .ret) .skip)) (.seq (.seq (.reg false [o 4 (.mv (.c (.int .i64 0)))]) (.block 2 (.loop (.seq (.seq (.reg false [o 26 (.mv (.t 4)), o 27 (.mv (.t 3)), o 28 (.bin .lss (.t 26) (.t 27))]) (.cond (.t 28) .skip (.exit 2))) (.seq (.block 3 (.seq (.reg true [o 31 (.mv (.t 0)), o 32 (.mv (.t 4)), o 33 (.ia 3 (.t 31) (.t 32)), o 34 (.fa 0 (.t 33)), o 35 (.ld none (.t 34)), o 36 (.mv (.t 0)), o 37 (.mv (.t 3)), o 38 (.ia 3 (.t 36) (.t 37)), o 39 (.fa 0 (.t 38)), o 40 (.ld none (.t 39)), o 41 (.bin .eql (.t 35) (.t 40))]) (.cond (.t 41) (.seq (.reg false [o 2 (.mv (.c (.bool false)))]) .ret) .skip))) (.reg false [o 29 (.mv (.t 4)), o 30 (.bin .add (.t 29) (.c (.int .i64 1))), o 4 (.mv (.t 30))])))))) (.seq (.reg true [o 42 (.mv (.t 3)), o 43 (.bin .gtr (.t 42) (.c (.int .i64 0))), o 44 (.mv (.t 43)), go 45 44 true (.mv (.t 0)), go 46 44 true (.mv (.t 3)), go 47 44 true (.ia 3 (.t 45) (.t 46)), go 48 44 true (.ld (some 3) (.t 47)), go 49 44 true (.mv (.t 0)), go 50 44 true (.mv (.t 3)), go 51 44 true (.max (.t 50) (.c (.int .i64 1))), go 52 44 true (.bin .sub (.t 51) (.c (.int .i64 1))), go 53 44 true (.bin .quo (.t 52) (.c (.int .i64 4))), go 54 44 true (.ia 3 (.t 49) (.t 53)), go 55 44 true (.ld (some 3) (.t 54)), go 56 44 true (.call 22 [.t 48, .t 55]), o 57 (.pick (.t 44) (.t 56) (.c (.bool false))), o 5 (.mv (.t 57))]) (.seq (.reg false [o 58 (.mv (.t 5))]) (.cond (.t 58) (.seq (.reg false [o 2 (.mv (.c (.bool false)))]) .ret) .skip)))))) (.reg false [o 10 (.mv (.t 3)), o 11 (.bin .add (.t 10) (.c (.int .i64 1))), o 3 (.mv (.t 11))])))))) (.seq (.reg false [o 59 (.mv (.t 0)), o 60 (.len 1 (.t 59)), o 61 (.bin .leq (.t 60) (.c (.int .i64 64))), o 2 (.mv (.t 61))]) .ret))
theorem comp20 : Compiled Try.prog 20 1 c20 [.t 2] := .fn Try.func20 (by kernel_rfl) (by kernel_rfl)
def c21 : MC := .seq (.reg false [o 2 (.box 3 (.t 0)), o 3 (.box 3 (.t 1)), o 4 (.mv (.c (.bool false)))]) (.seq (.reg false [o 5 (.ld (some 3) (.t 2)), o 6 (.ld (some 3) (.t 3)), o 7 (.call 45 [.t 5, .t 6]), o 8 (.bin .lss (.t 7) (.c (.int .i64 0))), o 4 (.mv (.t 8))]) .ret)
theorem comp21 : Compiled Try.prog 21 2 c21 [.t 4] := .fn Try.func21 (by kernel_rfl) (by kernel_rfl)
def c22 : MC := .seq (.reg false [o 2 (.box 3 (.t 0)), o 3 (.box 3 (.t 1)), o 4 (.mv (.c (.bool false)))]) (.seq (.seq (.reg false [o 5 (.fa 1 (.t 2)), o 6 (.ld none (.t 5)), o 7 (.fa 1 (.t 3)), o 8 (.ld none (.t 7)), o 9 (.bin .neq (.t 6) (.t 8))]) (.cond (.t 9) (.seq (.reg false [o 10 (.fa 1 (.t 2)), o 11 (.ld none (.t 10)), o 12 (.fa 1 (.t 3)), o 13 (.ld none (.t 12)), o 14 (.bin .lss (.t 11) (.t 13)), o 4 (.mv (.t 14))]) .ret) .skip)) (.seq (.seq (.reg false [o 15 (.fa 2 (.t 2)), o 16 (.ld none (.t 15)), o 17 (.fa 2 (.t 3)), o 18 (.ld none (.t 17)), o 19 (.bin .neq (.t 16) (.t 18))]) (.cond (.t 19) (.seq (.reg false [o 20 (.fa 2 (.t 2)), o 21 (.ld none (.t 20)), o 22 (.fa 2 (.t 3)), o 23 (.ld none (.t 22)), o 24 (.bin .lss (.t 21) (.t 23)), o 4 (.mv (.t 24))]) .ret) .skip)) (.seq (.reg false [o 25 (.fa 0 (.t 2)), o 26 (.ld none (.t 25)), o 27 (.fa 0 (.t 3)), o 28 (.ld none (.t 27)), o 29 (.bin .lss (.t 26) (.t 28)), o 4 (.mv (.t 29))]) .ret)))
theorem comp22 : Compiled Try.prog 22 2 c22 [.t 4] := .fn Try.func22 (by kernel_rfl) (by kernel_rfl)
def c23 : MC := .seq (.reg false [o 4 (.mv (.c (.bool false)))]) (.seq (.seq (.reg false [o 6 (.mv (.t 0)), o 7 (.len 1 (.t 6)), o 8 (.mv (.t 1)), o 9 (.len 1 (.t 8)), o 10 (.bin .neq (.t 7) (.t 9))]) (.cond (.t 10) (.seq (.reg false [o 4 (.mv (.c (.bool false)))]) .ret) .skip)) (.seq (.seq (.reg false [o 5 (.mv (.c (.int .i64 0)))]) (.block 0 (.loop (.seq (.seq (.reg false [o 11 (.mv (.t 5)), o 12 (.mv (.t 0)), o 13 (.len 1 (.t 12)), o 14 (.bin .lss (.t 11) (.t 13))]) (.cond (.t 14) .skip (.exit 0))) (.seq (.block 1 (.seq (.reg true [o 17 (.mv (.t 0)), o 18 (.mv (.t 5)), o 19 (.ia 3 (.t 17) (.t 18)), o 20 (.ld (some 3) (.t 19)), o 21 (.mv (.t 1)), o 22 (.mv (.t 5)), o 23 (.ia 3 (.t 21) (.t 22)), o 24 (.ld (some 3) (.t 23)), o 25 (.eqT true [0, 0, 0] (.t 20) (.t 24))]) (.cond (.t 25) (.seq (.reg false [o 4 (.mv (.c (.bool false)))]) .ret) .skip))) (.reg false [o 15 (.mv (.t 5)), o 16 (.bin .add (.t 15) (.c (.int .i64 1))), o 5 (.mv (.t 16))])))))) (.seq (.reg false [o 4 (.mv (.c (.bool true)))]) .ret)))
theorem comp23 : Compiled Try.prog 23 2 c23 [.t 4] := .fn Try.func23 (by kernel_rfl) (by kernel_rfl)
def c24 : MC := .seq (.reg false [o 2 (.mv (.c .nils))]) (.seq (.seq (.reg false [o 3 (.mv (.t 0)), o 4 (.call 19 [.t 3]), o 5 (.un .not (.t 4))]) (.cond (.t 5) (.seq (.reg false [o 2 (.mv (.c .nils))]) .ret) .skip)) (.seq (.reg false [o 6 (.mv (.t 0)), o 7 (.call 47 [.t 6]), o 8 (.call 46 [.t 7, .f 45]), o 2 (.mv (.t 8))]) .ret))
theorem comp24 : Compiled Try.prog 24 1 c24 [.t 2] := .fn Try.func24 (by kernel_rfl) (by kernel_rfl)
def c25 : MC := .seq (.reg false [o 3 (.box 3 (.t 1)), o 4 (.mv (.c .nils)), o 5 (.mv (.c (.int .i64 0)))]) (.seq (.reg false [o 11 (.mv (.t 0)), o 12 (.call 48 [.t 11]), o 6 (.mv (.t 12))]) (.seq (.block 0 (.seq (.reg false [o 14 (.mv (.t 0)), o 15 (.call 19 [.t 14]), o 16 (.un .not (.t 15)), o 13 (.mv (.t 16))]) (.cond (.t 13) (.seq (.reg false [o 17 (.mv (.t 6)), o 4 (.mv (.t 17)), o 5 (.mv (.c (.int .i64 120)))]) .ret) (.seq (.reg false [o 19 (.fa 0 (.t 3)), o 20 (.ld none (.t 19)), o 21 (.bin .lss (.t 20) (.c (.int .i64 0))), o 22 (.mv (.t 21)), go 23 22 false (.fa 0 (.t 3)), go 24 22 false (.ld none (.t 23)), go 25 22 false (.bin .geq (.t 24) (.c (.int .i64 64))), o 26 (.pick (.t 22) (.c (.bool true)) (.t 25)), o 18 (.mv (.t 26))]) (.cond (.t 18) (.seq (.reg false [o 27 (.mv (.t 6)), o 4 (.mv (.t 27)), o 5 (.mv (.c (.int .i64 110)))]) .ret) .skip))))) (.seq (.reg false [o 28 (.mv (.t 6)), o 29 (.fa 0 (.t 3)), o 30 (.ld none (.t 29)), o 31 (.call 43 [.t 28, .t 30]), o 7 (.mv (.t 31))]) (.seq (.seq (.reg false [o 32 (.mv (.t 7)), o 33 (.bin .lss (.t 32) (.c (.int .i64 0)))]) (.cond (.t 33) (.reg false [o 34 (.mv (.t 6)), o 35 (.len 1 (.t 34)), o 36 (.mv (.t 6)), o 37 (.ld (some 3) (.t 3)), o 38 (.bslice 3 (.agg [.int .i64 0, .int .u64 0, .int .u64 0]) 1 [(0, .t 37)]), o 39 (.app 3 24 (.agg [.int .i64 0, .int .u64 0, .int .u64 0]) (.t 36) (.t 38)), o 7 (.mv (.t 35)), o 6 (.mv (.t 39))]) .skip)) (.seq (.reg false [o 40 (.mv (.t 6)), o 41 (.mv (.t 7)), o 42 (.ld (some 3) (.t 3)), o 43 (.ia 3 (.t 40) (.t 41)), s (.st 3 (.t 43) (.t 42))]) (.seq (.reg false [o 44 (.mv (.t 6)), o 8 (.mv (.t 44))]) (.seq (.reg false [o 45 (.mv (.t 8)), o 46 (.mkf (.func 49) [.t 45] []), o 47 (.mv (.t 8)), o 48 (.mkf (.func 50) [.t 47] []), o 9 (.mv (.t 46)), o 10 (.mv (.t 48))]) (.seq (.reg false [o 49 (.mv (.t 10)), o 50 (.mv (.t 9)), o 51 (.mv (.t 7)), o 52 (.callv (.t 50) [.t 51]), o 53 (.callv (.t 49) [.t 52])]) (.seq (.reg false [o 54 (.mv (.t 6)), o 4 (.mv (.t 54)), o 5 (.mv (.c (.int .i64 0)))]) .ret)))))))))
theorem comp25 : Compiled Try.prog 25 2 c25 [.t 4, .t 5] := .fn Try.func25 (by kernel_rfl) (by kernel_rfl)
def c26 : MC := .seq (.reg false [o 4 (.mv (.c .nils)), o 5 (.mv (.c (.int .i64 0)))]) (.seq (.reg false [o 9 (.mv (.t 0)), o 10 (.call 48 [.t 9]), o 6 (.mv (.t 10))]) (.seq (.reg false [o 11 (.mv (.t 6)), o 12 (.mv (.t 1)), o 13 (.call 43 [.t 11, .t 12]), o 7 (.mv (.t 13))]) (.seq (.seq (.reg false [o 14 (.mv (.t 0)), o 15 (.call 19 [.t 14]), o 16 (.un .not (.t 15)), o 17 (.mv (.t 16)), go 18 17 false (.mv (.t 7)), go 19 17 false (.bin .lss (.t 18) (.c (.int .i64 0))), o 20 (.pick (.t 17) (.c (.bool true)) (.t 19))]) (.cond (.t 20) (.seq (.reg false [o 21 (.mv (.t 6)), o 4 (.mv (.t 21)), o 5 (.mv (.c (.int .i64 120)))]) .ret) .skip)) (.seq (.reg false [o 22 (.mv (.t 6)), o 23 (.len 1 (.t 22)), o 24 (.bin .sub (.t 23) (.c (.int .i64 1))), o 8 (.mv (.t 24))]) (.seq (.reg false [o 25 (.mv (.t 6)), o 26 (.mv (.t 7)), o 27 (.mv (.t 6)), o 28 (.mv (.t 8)), o 29 (.ia 3 (.t 27) (.t 28)), o 30 (.ld (some 3) (.t 29)), o 31 (.ia 3 (.t 25) (.t 26)), s (.st 3 (.t 31) (.t 30))]) (.seq (.reg false [o 32 (.mv (.t 6)), o 33 (.mv (.t 8)), o 34 (.sl 3 (.t 32) none (some (.t 33)) none), o 6 (.mv (.t 34))]) (.seq (.seq (.reg false [o 35 (.mv (.t 7)), o 36 (.mv (.t 8)), o 37 (.bin .lss (.t 35) (.t 36))]) (.cond (.t 37) (.reg false [o 38 (.mv (.t 6)), o 39 (.mv (.t 6)), o 40 (.mv (.t 7)), o 41 (.call 49 [.t 39, .t 40]), o 42 (.call 50 [.t 38, .t 41])]) .skip)) (.seq (.reg false [o 43 (.mv (.t 6)), o 4 (.mv (.t 43)), o 5 (.mv (.c (.int .i64 0)))]) .ret))))))))
theorem comp26 : Compiled Try.prog 26 2 c26 [.t 4, .t 5] := .fn Try.func26 (by kernel_rfl) (by kernel_rfl)
def c27 : MC := .seq (.reg false [o 3 (.box 4 (.t 1)), o 4 (.mv (.c .nils)), o 5 (.mv (.c (.int .i64 0)))]) (.seq (.seq (.reg false [o 6 (.fa 0 (.t 3)), o 7 (.ld none (.t 6))]) (.cond (.t 7) (.seq (.reg false [o 8 (.mv (.t 0)), o 9 (.fa 1 (.t 3)), o 10 (.fa 0 (.t 9)), o 11 (.ld none (.t 10)), o 12 (.call 26 [.t 8, .t 11]), o 13 (.ext (.t 12) 0), o 14 (.ext (.t 12) 1), o 4 (.mv (.t 13)), o 5 (.mv (.t 14))]) .ret) .skip)) (.seq (.reg false [o 15 (.mv (.t 0)), o 16 (.fa 1 (.t 3)), o 17 (.ld (some 3) (.t 16)), o 18 (.call 25 [.t 15, .t 17]), o 19 (.ext (.t 18) 0), o 20 (.ext (.t 18) 1), o 4 (.mv (.t 19)), o 5 (.mv (.t 20))]) .ret))
theorem comp27 : Compiled Try.prog 27 2 c27 [.t 4, .t 5] := .fn Try.func27 (by kernel_rfl) (by kernel_rfl)
def c28 : MC := .seq (.reg false [o 4 (.mv (.c (.bool false)))]) (.seq (.reg false [o 5 (.mv (.t 0)), o 6 (.mv (.t 1)), o 7 (.call 29 [.t 5, .t 6]), o 8 (.len 1 (.t 7)), o 9 (.mv (.t 0)), o 10 (.len 1 (.t 9)), o 11 (.bin .lss (.t 8) (.t 10)), o 4 (.mv (.t 11))]) .ret)
theorem comp28 : Compiled Try.prog 28 2 c28 [.t 4] := .fn Try.func28 (by kernel_rfl) (by kernel_rfl)
def c29 : MC := .seq (.reg false [o 4 (.mv (.c .nils))]) (.seq (.reg false [o 5 (.mv (.c .nils))]) (.seq (.seq (.reg false [o 6 (.mv (.c (.int .i64 0)))]) (.block 0 (.loop (.seq (.seq (.reg false [o 7 (.mv (.t 6)), o 8 (.mv (.t 0)), o 9 (.len 1 (.t 8)), o 10 (.bin .lss (.t 7) (.t 9))]) (.cond (.t 10) .skip (.exit 0))) (.seq (.block 1 (.seq (.reg false [o 13 (.mv (.t 0)), o 14 (.mv (.t 6)), o 15 (.ia 3 (.t 13) (.t 14)), o 16 (.fa 0 (.t 15)), o 17 (.ld none (.t 16)), o 18 (.mv (.t 1)), o 19 (.bin .neq (.t 17) (.t 18))]) (.cond (.t 19) (.reg false [o 20 (.mv (.t 5)), o 21 (.mv (.t 0)), o 22 (.mv (.t 6)), o 23 (.ia 3 (.t 21) (.t 22)), o 24 (.ld (some 3) (.t 23)), o 25 (.bslice 3 (.agg [.int .i64 0, .int .u64 0, .int .u64 0]) 1 [(0, .t 24)]), o 26 (.app 3 24 (.agg [.int .i64 0, .int .u64 0, .int .u64 0]) (.t 20) (.t 25)), o 5 (.mv (.t 26))]) .skip))) (.reg false [o 11 (.mv (.t 6)), o 12 (.bin .add (.t 11) (.c (.int .i64 1))), o 6 (.mv (.t 12))])))))) (.seq (.reg false [o 27 (.mv (.t 5)), o 4 (.mv (.t 27))]) .ret)))
theorem comp29 : Compiled Try.prog 29 2 c29 [.t 4] := .fn Try.func29 (by kernel_rfl) (by kernel_rfl)
def c31 : MC := .seq (.reg false [o 0 (.mv (.c (.bool false)))]) (.seq (.reg false [o 8 (.bslice 1 (.str []) 3 [(0, .c (.str [98])), (1, .c (.str [97])), (2, .c (.str [98]))]), o 9 (.call 33 [.t 8]), o 7 (.mv (.t 9)), o 10 (.ext (.t 7) 0), o 11 (.ext (.t 7) 1), o 1 (.mv (.t 10)), o 2 (.mv (.t 11))]) (.seq (.reg false [o 13 (.bslice 1 (.str []) 1 [(0, .c (.str []))]), o 14 (.call 33 [.t 13]), o 12 (.mv (.t 14)), o 15 (.ext (.t 12) 0), o 16 (.ext (.t 12) 1), o 3 (.mv (.t 15)), o 4 (.mv (.t 16))]) (.seq (.reg false [o 18 (.bslice 1 (.str []) 4 [(0, .c (.str [97])), (1, .c (.str [98])), (2, .c (.str [99])), (3, .c (.str [100]))]), o 19 (.call 33 [.t 18]), o 17 (.mv (.t 19)), o 20 (.ext (.t 17) 0), o 21 (.ext (.t 17) 1), o 5 (.mv (.t 20)), o 6 (.mv (.t 21))]) (.seq (.reg false [o 22 (.call 35 [.c (.str [97])]), o 23 (.mv (.t 22)), go 24 23 true (.call 35 [.c (.str [])]), go 25 23 true (.un .not (.t 24)), o 26 (.pick (.t 23) (.t 25) (.c (.bool false))), o 27 (.mv (.t 26)), go 28 27 true (.call 35 [.c (.str [48, 49, 50, 51, 52, 53, 54, 55, 56, 57, 97, 98, 99, 100, 101, 102])]), o 29 (.pick (.t 27) (.t 28) (.c (.bool false))), o 30 (.mv (.t 29)), go 31 30 true (.call 35 [.c (.str [48, 49, 50, 51, 52, 53, 54, 55, 56, 57, 97, 98, 99, 100, 101, 102, 103])]), go 32 30 true (.un .not (.t 31)), o 33 (.pick (.t 30) (.t 32) (.c (.bool false))), o 34 (.mv (.t 33)), go 35 34 true (.mv (.t 1)), go 36 34 true (.bslice 1 (.str []) 2 [(0, .c (.str [97])), (1, .c (.str [98]))]), go 37 34 true (.call 37 [.t 35, .t 36]), o 38 (.pick (.t 34) (.t 37) (.c (.bool false))), o 39 (.mv (.t 38)), go 40 39 true (.mv (.t 2)), go 41 39 true (.bin .eql (.t 40) (.c (.int .i64 0))), o 42 (.pick (.t 39) (.t 41) (.c (.bool false))), o 43 (.mv (.t 42)), go 44 43 true (.mv (.t 4)), go 45 43 true (.bin .eql (.t 44) (.c (.int .i64 90))), o 46 (.pick (.t 43) (.t 45) (.c (.bool false))), o 47 (.mv (.t 46)), go 48 47 true (.mv (.t 6)), go 49 47 true (.bin .eql (.t 48) (.c (.int .i64 90))), o 50 (.pick (.t 47) (.t 49) (.c (.bool false))), o 51 (.mv (.t 50)), go 52 51 true (.call 38 [.c (.str [])]), go 53 51 true (.bin .eql (.t 52) (.c (.int .u64 14695981039346656037))), o 54 (.pick (.t 51) (.t 53) (.c (.bool false))), o 55 (.mv (.t 54)), go 56 55 true (.call 38 [.c (.str [97])]), go 57 55 true (.bin .eql (.t 56) (.c (.int .u64 12638187200555641996))), o 58 (.pick (.t 55) (.t 57) (.c (.bool false))), o 59 (.mv (.t 58)), go 60 59 true (.call 40 [.c (.str [97]), .c (.int .i64 10)]), go 61 59 true (.bin .eql (.t 60) (.c (.int .i64 6))), o 62 (.pick (.t 59) (.t 61) (.c (.bool false))), o 63 (.mv (.t 62)), go 64 63 true (.call 40 [.c (.str [97]), .c (.int .i64 0)]), go 65 63 true (.bin .eql (.t 64) (.c (.int .i64 0))), o 66 (.pick (.t 63) (.t 65) (.c (.bool false))), o 67 (.mv (.t 66)), o 68 (.pick (.t 67) (.c (.bool true)) (.c (.bool false))), o 69 (.mv (.t 68)), o 70 (.pick (.t 69) (.c (.bool true)) (.c (.bool false))), o 71 (.mv (.t 70)), o 72 (.pick (.t 71) (.c (.bool true)) (.c (.bool false))), o 73 (.mv (.t 72)), o 74 (.pick (.t 73) (.c (.bool true)) (.c (.bool false))), o 0 (.mv (.t 74))]) .ret))))
theorem comp31 : Compiled Try.prog 31 0 c31 [.t 0] := .fn Try.func31 (by kernel_rfl) (by kernel_rfl)
def c32 : MC := .seq (.reg false [o 4 (.mv (.c (.bool false)))]) (.seq (.seq (.reg false [o 5 (.mv (.c (.int .i64 0)))]) (.block 0 (.loop (.seq (.seq (.reg false [o 6 (.mv (.t 5)), o 7 (.mv (.t 0)), o 8 (.len 1 (.t 7)), o 9 (.bin .lss (.t 6) (.t 8))]) (.cond (.t 9) .skip (.exit 0))) (.seq (.block 1 (.seq (.reg false [o 12 (.mv (.t 0)), o 13 (.mv (.t 5)), o 14 (.ia 1 (.t 12) (.t 13)), o 15 (.ld none (.t 14)), o 16 (.len 0 (.t 15)), o 17 (.bin .gtr (.t 16) (.c (.int .i64 1000)))]) (.cond (.t 17) (.seq (.reg false [o 4 (.mv (.c (.bool false)))]) .ret) .skip))) (.reg false [o 10 (.mv (.t 5)), o 11 (.bin .add (.t 10) (.c (.int .i64 1))), o 5 (.mv (.t 11))])))))) (.seq (.reg false [o 18 (.mv (.t 0)), o 19 (.len 1 (.t 18)), o 20 (.mv (.t 1)), o 21 (.bin .leq (.t 19) (.t 20)), o 4 (.mv (.t 21))]) .ret))
theorem comp32 : Compiled Try.prog 32 2 c32 [.t 4] := .fn Try.func32 (by kernel_rfl) (by kernel_rfl)
def c33 : MC := .seq (.reg false [o 2 (.mv (.c .nils)), o 3 (.mv (.c (.int .i64 0)))]) (.seq (.reg false [o 11 .mkm, o 4 (.mv (.t 11))]) (.seq (.seq (.reg false [o 12 (.mv (.t 0)), o 13 (.len 1 (.t 12)), o 14 (.mv (.c (.int .i64 0)))]) (.block 0 (.loop (.seq (.reg false [o 15 (.bin .lss (.t 14) (.t 13))]) (.seq (.cond (.t 15) .skip (.exit 0)) (.seq (.block 1 (.seq (.reg false [o 16 (.ia 1 (.t 12) (.t 14)), o 17 (.ld none (.t 16)), o 6 (.mv (.t 17))]) (.seq (.reg false [o 18 (.mv (.t 6)), o 19 (.call 51 [.t 18]), o 7 (.new 9 (.agg [.int .u8 0, .int .u8 0, .int .u8 0, .int .u8 0, .int .u8 0, .int .u8 0, .int .u8 0, .int .u8 0, .int .u8 0])), s (.st 9 (.t 7) (.t 19))]) (.seq (.seq (.reg false [o 20 (.ld (some 9) (.t 7)), o 21 (.build [.int .u8 0, .int .u8 0, .int .u8 0, .int .u8 0, .int .u8 0, .int .u8 0, .int .u8 0, .int .u8 0, .int .u8 0] []), o 22 (.eqT false [0, 0, 0, 0, 0, 0, 0, 0, 0] (.t 20) (.t 21))]) (.cond (.t 22) (.seq (.reg false [o 2 (.mv (.c .nils)), o 3 (.mv (.c (.int .i64 90)))]) .ret) .skip)) (.reg false [o 23 (.mv (.t 4)), o 24 (.ld (some 9) (.t 7)), o 25 (.mv (.t 6)), s (.mset [9, 0, 0, 0, 0, 0, 0, 0, 0, 0] (.t 23) (.t 24) (.t 25))]))))) (.reg false [o 26 (.bin .add (.t 14) (.c (.int .i64 1))), o 14 (.mv (.t 26))]))))))) (.seq (.seq (.reg false [o 27 (.mv (.t 4)), o 28 (.len 2 (.t 27)), o 29 (.bin .gtr (.t 28) (.c (.int .i64 3)))]) (.cond (.t 29) (.seq (.reg false [o 2 (.mv (.c .nils)), o 3 (.mv (.c (.int .i64 90)))]) .ret) .skip)) (.seq (.reg false [o 8 (.mv (.c .nils))]) (.seq (.seq (.reg false [o 30 (.mv (.t 4)), o 31 (.rng (.t 30))]) (.block 2 (.loop (.seq (.reg false [o 32 (.nxt (.t 31)), o 33 (.ext (.t 32) 0)]) (.seq (.cond (.t 33) .skip (.exit 2)) (.block 3 (.seq (.reg false [o 34 (.ent (.t 31)), o 35 (.ext (.t 34) 1), o 10 (.mv (.t 35))]) (.reg false [o 36 (.mv (.t 8)), o 37 (.mv (.t 10)), o 38 (.bslice 1 (.str []) 1 [(0, .t 37)]), o 39 (.app 1 16 (.str []) (.t 36) (.t 38)), o 8 (.mv (.t 39))])))))))) (.seq (.reg false [o 40 (.mv (.t 8)), o 41 (.call 52 [.t 40])]) (.seq (.reg false [o 42 (.mv (.t 8)), o 2 (.mv (.t 42)), o 3 (.mv (.c (.int .i64 0)))]) .ret)))))))
theorem comp33 : Compiled Try.prog 33 1 c33 [.t 2, .t 3] := .fn Try.func33 (by kernel_rfl) (by kernel_rfl)
def c34 : MC := .seq (.reg false [o 2 (.mv (.c .nils)), o 3 (.mv (.c (.int .i64 0)))]) (.seq (.reg false [o 4 (.mv (.c .nils))]) (.seq (.seq (.reg false [o 5 (.mv (.c (.int .i64 0)))]) (.block 0 (.loop (.seq (.seq (.reg false [o 6 (.mv (.t 5)), o 7 (.mv (.t 0)), o 8 (.len 1 (.t 7)), o 9 (.bin .lss (.t 6) (.t 8))]) (.cond (.t 9) .skip (.exit 0))) (.seq (.block 1 (.seq (.seq (.reg false [o 12 (.mv (.t 0)), o 13 (.mv (.t 5)), o 14 (.ia 1 (.t 12) (.t 13)), o 15 (.ld none (.t 14)), o 16 (.len 0 (.t 15)), o 17 (.bin .eql (.t 16) (.c (.int .i64 0))), o 18 (.mv (.t 17)), go 19 18 false (.mv (.t 0)), go 20 18 false (.mv (.t 5)), go 21 18 false (.ia 1 (.t 19) (.t 20)), go 22 18 false (.ld none (.t 21)), go 23 18 false (.len 0 (.t 22)), go 24 18 false (.bin .gtr (.t 23) (.c (.int .i64 8))), o 25 (.pick (.t 18) (.c (.bool true)) (.t 24))]) (.cond (.t 25) (.seq (.reg false [o 2 (.mv (.c .nils)), o 3 (.mv (.c (.int .i64 90)))]) .ret) .skip)) (.reg false [o 26 (.mv (.t 4)), o 27 (.mv (.t 0)), o 28 (.mv (.t 5)), o 29 (.ia 1 (.t 27) (.t 28)), o 30 (.ld none (.t 29)), o 31 (.call 53 [.t 26, .t 30]), o 4 (.mv (.t 31))]))) (.reg false [o 10 (.mv (.t 5)), o 11 (.bin .add (.t 10) (.c (.int .i64 1))), o 5 (.mv (.t 11))])))))) (.seq (.seq (.reg false [o 32 (.mv (.t 4)), o 33 (.len 1 (.t 32)), o 34 (.bin .gtr (.t 33) (.c (.int .i64 3)))]) (.cond (.t 34) (.seq (.reg false [o 2 (.mv (.c .nils)), o 3 (.mv (.c (.int .i64 90)))]) .ret) .skip)) (.seq (.reg false [o 35 (.mv (.t 4)), o 2 (.mv (.t 35)), o 3 (.mv (.c (.int .i64 0)))]) .ret))))
theorem comp34 : Compiled Try.prog 34 1 c34 [.t 2, .t 3] := .fn Try.func34 (by kernel_rfl) (by kernel_rfl)
def c35 : MC := .seq (.reg false [o 2 (.mv (.c (.bool false)))]) (.seq (.reg false [o 3 (.mv (.t 0)), o 4 (.len 0 (.t 3)), o 5 (.bin .geq (.t 4) (.c (.int .i64 1))), o 6 (.mv (.t 5)), go 7 6 true (.mv (.t 0)), go 8 6 true (.len 0 (.t 7)), go 9 6 true (.bin .leq (.t 8) (.c (.int .i64 16))), o 10 (.pick (.t 6) (.t 9) (.c (.bool false))), o 2 (.mv (.t 10))]) .ret)
theorem comp35 : Compiled Try.prog 35 1 c35 [.t 2] := .fn Try.func35 (by kernel_rfl) (by kernel_rfl)
def c36 : MC := .seq (.reg false [o 2 (.mv (.c (.bool false)))]) (.seq (.reg false [o 3 (.mv (.t 0)), o 4 (.len 0 (.t 3)), o 5 (.bin .gtr (.t 4) (.c (.int .i64 0))), o 6 (.mv (.t 5)), go 7 6 true (.mv (.t 0)), go 8 6 true (.len 0 (.t 7)), go 9 6 true (.bin .leq (.t 8) (.c (.int .i64 16))), o 10 (.pick (.t 6) (.t 9) (.c (.bool false))), o 2 (.mv (.t 10))]) .ret)
theorem comp36 : Compiled Try.prog 36 1 c36 [.t 2] := .fn Try.func36 (by kernel_rfl) (by kernel_rfl)
def c37 : MC := .seq (.reg false [o 4 (.mv (.c (.bool false)))]) (.seq (.seq (.reg false [o 6 (.mv (.t 0)), o 7 (.len 1 (.t 6)), o 8 (.mv (.t 1)), o 9 (.len 1 (.t 8)), o 10 (.bin .neq (.t 7) (.t 9))]) (.cond (.t 10) (.seq (.reg false [o 4 (.mv (.c (.bool false)))]) .ret) .skip)) (.seq (.seq (.reg false [o 5 (.mv (.c (.int .i64 0)))]) (.block 0 (.loop (.seq (.seq (.reg false [o 11 (.mv (.t 5)), o 12 (.mv (.t 0)), o 13 (.len 1 (.t 12)), o 14 (.bin .lss (.t 11) (.t 13))]) (.cond (.t 14) .skip (.exit 0))) (.seq (.block 1 (.seq (.reg true [o 17 (.mv (.t 0)), o 18 (.mv (.t 5)), o 19 (.ia 1 (.t 17) (.t 18)), o 20 (.ld none (.t 19)), o 21 (.mv (.t 1)), o 22 (.mv (.t 5)), o 23 (.ia 1 (.t 21) (.t 22)), o 24 (.ld none (.t 23)), o 25 (.bin .neq (.t 20) (.t 24))]) (.cond (.t 25) (.seq (.reg false [o 4 (.mv (.c (.bool false)))]) .ret) .skip))) (.reg false [o 15 (.mv (.t 5)), o 16 (.bin .add (.t 15) (.c (.int .i64 1))), o 5 (.mv (.t 16))])))))) (.seq (.reg false [o 4 (.mv (.c (.bool true)))]) .ret)))
theorem comp37 : Compiled Try.prog 37 2 c37 [.t 4] := .fn Try.func37 (by kernel_rfl) (by kernel_rfl)
def c38 : MC := .seq (.reg false [o 2 (.mv (.c (.int .u64 0)))]) (.seq (.reg false [o 3 (.mv (.c (.int .u64 14695981039346656037)))]) (.seq (.seq (.reg false [o 5 (.mv (.t 0)), o 6 (.len 0 (.t 5)), o 7 (.mv (.c (.int .i64 0)))]) (.block 0 (.loop (.seq (.reg false [o 8 (.bin .lss (.t 7) (.t 6))]) (.seq (.cond (.t 8) .skip (.exit 0)) (.seq (.block 1 (.seq (.reg false [o 9 (.mv (.t 7)), o 4 (.mv (.t 9))]) (.reg false [o 10 (.mv (.t 3)), o 11 (.mv (.t 0)), o 12 (.mv (.t 4)), o 13 (.ixS (.t 11) (.t 12)), o 14 (.cvi .u64 (.t 13)), o 15 (.bin .xor (.t 10) (.t 14)), o 16 (.bin .mul (.t 15) (.c (.int .u64 1099511628211))), o 3 (.mv (.t 16))]))) (.reg false [o 17 (.bin .add (.t 7) (.c (.int .i64 1))), o 7 (.mv (.t 17))]))))))) (.seq (.reg false [o 18 (.mv (.t 3)), o 2 (.mv (.t 18))]) .ret)))
theorem comp38 : Compiled Try.prog 38 1 c38 [.t 2] := .fn Try.func38 (by kernel_rfl) (by kernel_rfl)
def c39 : MC := .seq (.reg false [o 2 (.mv (.c (.int .u64 0)))]) (.seq (.reg false [o 3 (.mv (.c (.int .u64 14695981039346656037)))]) (.seq (.seq (.reg false [o 4 (.mv (.c (.int .i64 0)))]) (.block 0 (.loop (.seq (.seq (.reg false [o 5 (.mv (.t 4)), o 6 (.mv (.t 0)), o 7 (.len 0 (.t 6)), o 8 (.bin .lss (.t 5) (.t 7))]) (.cond (.t 8) .skip (.exit 0))) (.seq (.block 1 (.seq (.reg false [o 11 (.mv (.t 3)), o 12 (.mv (.t 0)), o 13 (.mv (.t 4)), o 14 (.ixS (.t 12) (.t 13)), o 15 (.cvi .u64 (.t 14)), o 16 (.bin .xor (.t 11) (.t 15)), o 3 (.mv (.t 16))]) (.reg false [o 17 (.mv (.t 3)), o 18 (.bin .mul (.t 17) (.c (.int .u64 1099511628211))), o 3 (.mv (.t 18))]))) (.reg false [o 9 (.mv (.t 4)), o 10 (.bin .add (.t 9) (.c (.int .i64 1))), o 4 (.mv (.t 10))])))))) (.seq (.reg false [o 19 (.mv (.t 3)), o 2 (.mv (.t 19))]) .ret)))
theorem comp39 : Compiled Try.prog 39 1 c39 [.t 2] := .fn Try.func39 (by kernel_rfl) (by kernel_rfl)
def c40 : MC := .seq (.reg false [o 4 (.mv (.c (.int .i64 0)))]) (.seq (.seq (.reg false [o 5 (.mv (.t 1)), o 6 (.bin .lss (.t 5) (.c (.int .i64 1)))]) (.cond (.t 6) (.seq (.reg false [o 4 (.mv (.c (.int .i64 0)))]) .ret) .skip)) (.seq (.reg false [o 7 (.mv (.t 0)), o 8 (.call 38 [.t 7]), o 9 (.mv (.t 1)), o 10 (.cvi .u64 (.t 9)), o 11 (.bin .rem (.t 8) (.t 10)), o 12 (.cvi .i64 (.t 11)), o 4 (.mv (.t 12))]) .ret))
theorem comp40 : Compiled Try.prog 40 2 c40 [.t 4] := .fn Try.func40 (by kernel_rfl) (by kernel_rfl)
def c41 : MC := .seq (.reg false [o 4 (.mv (.c (.int .i64 0)))]) (.seq (.seq (.reg false [o 5 (.mv (.t 1)), o 6 (.bin .lss (.t 5) (.c (.int .i64 1)))]) (.cond (.t 6) (.seq (.reg false [o 4 (.mv (.c (.int .i64 0)))]) .ret) .skip)) (.seq (.reg false [o 7 (.mv (.t 0)), o 8 (.call 39 [.t 7]), o 9 (.mv (.t 1)), o 10 (.cvi .u64 (.t 9)), o 11 (.bin .rem (.t 8) (.t 10)), o 12 (.cvi .i64 (.t 11)), o 4 (.mv (.t 12))]) .ret))
theorem comp41 : Compiled Try.prog 41 2 c41 [.t 4] := .fn Try.func41 (by kernel_rfl) (by kernel_rfl)
def c42 : MC := .seq (.reg false [o 4 (.mv (.c (.bool false)))]) (.seq (.seq (.reg false [o 5 (.mv (.c (.int .i64 0)))]) (.block 0 (.loop (.seq (.seq (.reg false [o 6 (.mv (.t 5)), o 7 (.mv (.t 0)), o 8 (.len 1 (.t 7)), o 9 (.bin .lss (.t 6) (.t 8))]) (.cond (.t 9) .skip (.exit 0))) (.seq (.block 1 (.seq (.reg false [o 12 (.mv (.t 0)), o 13 (.mv (.t 5)), o 14 (.ia 1 (.t 12) (.t 13)), o 15 (.ld none (.t 14)), o 16 (.mv (.t 1)), o 17 (.bin .eql (.t 15) (.t 16))]) (.cond (.t 17) (.seq (.reg false [o 4 (.mv (.c (.bool true)))]) .ret) .skip))) (.reg false [o 10 (.mv (.t 5)), o 11 (.bin .add (.t 10) (.c (.int .i64 1))), o 5 (.mv (.t 11))])))))) (.seq (.reg false [o 4 (.mv (.c (.bool false)))]) .ret))
theorem comp42 : Compiled Try.prog 42 2 c42 [.t 4] := .fn Try.func42 (by kernel_rfl) (by kernel_rfl)
def c43 : MC := .seq (.reg false [o 3 (.box 1 (.t 1)), o 4 (.mv (.c (.int .i64 0)))]) (.seq (.reg false [o 5 (.mv (.t 0)), o 6 (.mkf (.func 55) [] [.t 3]), o 7 (.call 54 [.t 5, .t 6]), o 4 (.mv (.t 7))]) .ret)
theorem comp43 : Compiled Try.prog 43 2 c43 [.t 4] := .fn Try.func43 (by kernel_rfl) (by kernel_rfl)
def c44 : MC := .seq (.reg false [o 2 (.mv (.c (.int .i64 0)))]) (.seq (.reg false [o 3 (.mv (.t 0)), o 4 (.bin .sub (.t 3) (.c (.int .i64 1))), o 5 (.bin .quo (.t 4) (.c (.int .i64 4))), o 2 (.mv (.t 5))]) .ret)
theorem comp44 : Compiled Try.prog 44 1 c44 [.t 2] := .fn Try.func44 (by kernel_rfl) (by kernel_rfl)
def c45 : MC := .seq (.reg false [o 2 (.box 3 (.t 0)), o 3 (.box 3 (.t 1)), o 4 (.mv (.c (.int .i64 0)))]) (.seq (.reg true [o 5 (.fa 1 (.t 2)), o 6 (.ld none (.t 5)), o 7 (.fa 1 (.t 3)), o 8 (.ld none (.t 7)), qq (some 9) none (.call 57 [.t 6, .t 8]), o 10 (.fa 2 (.t 2)), o 11 (.ld none (.t 10)), o 12 (.fa 2 (.t 3)), o 13 (.ld none (.t 12)), qq (some 14) none (.call 57 [.t 11, .t 13]), o 15 (.fa 0 (.t 2)), o 16 (.ld none (.t 15)), o 17 (.fa 0 (.t 3)), o 18 (.ld none (.t 17)), o 19 (.call 58 [.t 16, .t 18]), o 20 (.bslice 1 (.int .i64 0) 3 [(0, .t 9), (1, .t 14), (2, .t 19)]), o 21 (.call 56 [.t 20]), o 4 (.mv (.t 21))]) .ret)
theorem comp45 : Compiled Try.prog 45 2 c45 [.t 4] := .fn Try.func45 (by kernel_rfl) (by kernel_rfl)
def c46 : MC := .seq (.reg false [o 4 (.mv (.c .nils))]) (.seq (.reg false [o 6 (.mv (.t 0)), o 7 (.call 59 [.t 6]), o 5 (.mv (.t 7))]) (.seq (.reg false [o 8 (.mv (.t 5)), o 9 (.mv (.t 1)), o 10 (.call 60 [.t 8, .t 9])]) (.seq (.reg false [o 11 (.mv (.t 5)), o 4 (.mv (.t 11))]) .ret)))
theorem comp46 : Compiled Try.prog 46 2 c46 [.t 4] := .fn Try.func46 (by kernel_rfl) (by kernel_rfl)
def c47 : MC := .seq (.reg false [o 1 (.box 1 (.t 0)), o 2 (.mv (.c .nilf))]) (.seq (.reg false [o 3 (.mkf (.func 61) [] [.t 1]), o 2 (.mv (.t 3))]) .ret)
theorem comp47 : Compiled Try.prog 47 1 c47 [.t 2] := .fn Try.func47 (by kernel_rfl) (by kernel_rfl)
def c48 : MC := .seq (.reg false [o 2 (.mv (.c .nils))]) (.seq (.seq (.reg false [o 3 (.mv (.t 0)), o 4 (.nilq false (.t 3))]) (.cond (.t 4) (.seq (.reg false [o 2 (.mv (.c .nils))]) .ret) .skip)) (.seq (.reg false [o 5 (.bslice 3 (.agg [.int .i64 0, .int .u64 0, .int .u64 0]) 0 []), o 6 (.mv (.t 0)), o 7 (.app 3 24 (.agg [.int .i64 0, .int .u64 0, .int .u64 0]) (.t 5) (.t 6)), o 2 (.mv (.t 7))]) .ret))
theorem comp48 : Compiled Try.prog 48 1 c48 [.t 2] := .fn Try.func48 (by kernel_rfl) (by kernel_rfl)
def c49 : MC := .seq (.reg false [o 4 (.mv (.c (.int .i64 0)))]) (.scopeL 0 (.seq (.label 0) (.seq (.seq (.reg false [o 6 (.mv (.t 1)), o 7 (.call 44 [.t 6]), o 5 (.mv (.t 7))]) (.seq (.reg true [o 8 (.mv (.t 1)), o 9 (.bin .gtr (.t 8) (.c (.int .i64 0))), o 10 (.mv (.t 9)), go 11 10 true (.mv (.t 0)), go 12 10 true (.mv (.t 1)), go 13 10 true (.ia 3 (.t 11) (.t 12)), go 14 10 true (.ld (some 3) (.t 13)), go 15 10 true (.mv (.t 0)), go 16 10 true (.mv (.t 5)), go 17 10 true (.ia 3 (.t 15) (.t 16)), go 18 10 true (.ld (some 3) (.t 17)), go 19 10 true (.call 21 [.t 14, .t 18]), o 20 (.pick (.t 10) (.t 19) (.c (.bool false)))]) (.cond (.t 20) (.seq (.reg true [o 21 (.mv (.t 0)), o 22 (.mv (.t 1)), o 23 (.mv (.t 0)), o 24 (.mv (.t 5)), o 25 (.mv (.t 0)), o 26 (.mv (.t 5)), o 27 (.ia 3 (.t 25) (.t 26)), o 28 (.ld (some 3) (.t 27)), o 29 (.mv (.t 0)), o 30 (.mv (.t 1)), o 31 (.ia 3 (.t 29) (.t 30)), o 32 (.ld (some 3) (.t 31)), o 33 (.ia 3 (.t 21) (.t 22)), s (.st 3 (.t 33) (.t 28)), o 34 (.ia 3 (.t 23) (.t 24)), s (.st 3 (.t 34) (.t 32))]) (.seq (.reg false [o 35 (.mv (.t 5)), o 1 (.mv (.t 35))]) (.goto 0))) .skip))) (.seq (.reg false [o 36 (.mv (.t 1)), o 4 (.mv (.t 36))]) .ret))) (.seq .skip (.seq (.seq (.reg false [o 6 (.mv (.t 1)), o 7 (.call 44 [.t 6]), o 5 (.mv (.t 7))]) (.seq (.reg true [o 8 (.mv (.t 1)), o 9 (.bin .gtr (.t 8) (.c (.int .i64 0))), o 10 (.mv (.t 9)), go 11 10 true (.mv (.t 0)), go 12 10 true (.mv (.t 1)), go 13 10 true (.ia 3 (.t 11) (.t 12)), go 14 10 true (.ld (some 3) (.t 13)), go 15 10 true (.mv (.t 0)), go 16 10 true (.mv (.t 5)), go 17 10 true (.ia 3 (.t 15) (.t 16)), go 18 10 true (.ld (some 3) (.t 17)), go 19 10 true (.call 21 [.t 14, .t 18]), o 20 (.pick (.t 10) (.t 19) (.c (.bool false)))]) (.cond (.t 20) (.seq (.reg true [o 21 (.mv (.t 0)), o 22 (.mv (.t 1)), o 23 (.mv (.t 0)), o 24 (.mv (.t 5)), o 25 (.mv (.t 0)), o 26 (.mv (.t 5)), o 27 (.ia 3 (.t 25) (.t 26)), o 28 (.ld (some 3) (.t 27)), o 29 (.mv (.t 0)), o 30 (.mv (.t 1)), o 31 (.ia 3 (.t 29) (.t 30)), o 32 (.ld (some 3) (.t 31)), o 33 (.ia 3 (.t 21) (.t 22)), s (.st 3 (.t 33) (.t 28)), o 34 (.ia 3 (.t 23) (.t 24)), s (.st 3 (.t 34) (.t 32))]) (.seq (.reg false [o 35 (.mv (.t 5)), o 1 (.mv (.t 35))]) (.goto 0))) .skip))) (.seq (.reg false [o 36 (.mv (.t 1)), o 4 (.mv (.t 36))]) .ret))))
theorem comp49 : Compiled Try.prog 49 2 c49 [.t 4] := .fn Try.func49 (by kernel_rfl) (by kernel_rfl)
def c50 : MC := .scope (.seq (.label 0) (.block 0 (.loop (.block 1 (.seq (.reg false [o 6 (.mv (.t 1)), o 4 (.mv (.t 6))]) (.seq (.seq (.reg false [o 7 (.mv (.t 1)), o 8 (.bin .mul (.c (.int .i64 4)) (.t 7)), o 9 (.bin .add (.t 8) (.c (.int .i64 1))), o 5 (.mv (.t 9))]) (.block 2 (.loop (.seq (.seq (.reg false [o 10 (.mv (.t 5)), o 11 (.mv (.t 1)), o 12 (.bin .mul (.c (.int .i64 4)) (.t 11)), o 13 (.bin .add (.t 12) (.c (.int .i64 4))), o 14 (.bin .leq (.t 10) (.t 13)), o 15 (.mv (.t 14)), go 16 15 true (.mv (.t 5)), go 17 15 true (.mv (.t 0)), go 18 15 true (.len 1 (.t 17)), go 19 15 true (.bin .lss (.t 16) (.t 18)), o 20 (.pick (.t 15) (.t 19) (.c (.bool false)))]) (.cond (.t 20) .skip (.exit 2))) (.seq (.block 3 (.seq (.reg true [o 23 (.mv (.t 0)), o 24 (.mv (.t 5)), o 25 (.ia 3 (.t 23) (.t 24)), o 26 (.ld (some 3) (.t 25)), o 27 (.mv (.t 0)), o 28 (.mv (.t 4)), o 29 (.ia 3 (.t 27) (.t 28)), o 30 (.ld (some 3) (.t 29)), o 31 (.call 21 [.t 26, .t 30])]) (.cond (.t 31) (.reg false [o 32 (.mv (.t 5)), o 4 (.mv (.t 32))]) .skip))) (.reg false [o 21 (.mv (.t 5)), o 22 (.bin .add (.t 21) (.c (.int .i64 1))), o 5 (.mv (.t 22))])))))) (.seq (.seq (.reg false [o 33 (.mv (.t 4)), o 34 (.mv (.t 1)), o 35 (.bin .eql (.t 33) (.t 34))]) (.cond (.t 35) (.exit 0) .skip)) (.seq (.reg true [o 36 (.mv (.t 0)), o 37 (.mv (.t 1)), o 38 (.mv (.t 0)), o 39 (.mv (.t 4)), o 40 (.mv (.t 0)), o 41 (.mv (.t 4)), o 42 (.ia 3 (.t 40) (.t 41)), o 43 (.ld (some 3) (.t 42)), o 44 (.mv (.t 0)), o 45 (.mv (.t 1)), o 46 (.ia 3 (.t 44) (.t 45)), o 47 (.ld (some 3) (.t 46)), o 48 (.ia 3 (.t 36) (.t 37)), s (.st 3 (.t 48) (.t 43)), o 49 (.ia 3 (.t 38) (.t 39)), s (.st 3 (.t 49) (.t 47))]) (.reg false [o 50 (.mv (.t 4)), o 1 (.mv (.t 50))])))))))))
theorem comp50 : Compiled Try.prog 50 2 c50 [] := .fn Try.func50 (by kernel_rfl) (by kernel_rfl)
def c51 : MC := .seq (.reg false [o 2 (.new 9 (.agg [.int .u8 0, .int .u8 0, .int .u8 0, .int .u8 0, .int .u8 0, .int .u8 0, .int .u8 0, .int .u8 0, .int .u8 0]))]) (.seq (.seq (.reg false [o 3 (.mv (.t 0)), o 4 (.len 0 (.t 3)), o 5 (.bin .lss (.t 4) (.c (.int .i64 1))), o 6 (.mv (.t 5)), go 7 6 false (.mv (.t 0)), go 8 6 false (.len 0 (.t 7)), go 9 6 false (.bin .gtr (.t 8) (.c (.int .i64 8))), o 10 (.pick (.t 6) (.c (.bool true)) (.t 9))]) (.cond (.t 10) (.seq (.reg false [o 11 (.build [.int .u8 0, .int .u8 0, .int .u8 0, .int .u8 0, .int .u8 0, .int .u8 0, .int .u8 0, .int .u8 0, .int .u8 0] []), s (.st 9 (.t 2) (.t 11))]) .ret) .skip)) (.seq (.reg false [o 12 (.slA 9 1 (.t 2) none none none), o 13 (.mv (.t 0)), o 14 (.cpy 1 (.t 12) (.t 13))]) (.seq (.reg false [o 15 (.mv (.t 0)), o 16 (.len 0 (.t 15)), o 17 (.cvi .u8 (.t 16)), o 18 (.iaA 9 1 (.t 2) (.c (.int .i64 8))), s (.st 1 (.t 18) (.t 17))]) (.seq (.reg false [o 19 (.ld (some 9) (.t 2)), s (.st 9 (.t 2) (.t 19))]) .ret))))
theorem comp51 : Compiled Try.prog 51 1 c51 [.c (some 9) 2] := .fn Try.func51 (by kernel_rfl) (by kernel_rfl)
def c53 : MC := .seq (.reg false [o 4 (.mv (.c .nils))]) (.seq (.reg false [o 5 (.mv (.c (.int .i64 0)))]) (.seq (.block 0 (.loop (.seq (.seq (.reg false [o 7 (.mv (.t 5)), o 8 (.mv (.t 0)), o 9 (.len 1 (.t 8)), o 10 (.bin .lss (.t 7) (.t 9)), o 11 (.mv (.t 10)), go 12 11 true (.mv (.t 0)), go 13 11 true (.mv (.t 5)), go 14 11 true (.ia 1 (.t 12) (.t 13)), go 15 11 true (.ld none (.t 14)), go 16 11 true (.mv (.t 1)), go 17 11 true (.bin .lss (.t 15) (.t 16)), o 18 (.pick (.t 11) (.t 17) (.c (.bool false)))]) (.cond (.t 18) .skip (.exit 0))) (.block 1 (.reg false [o 19 (.mv (.t 5)), o 20 (.bin .add (.t 19) (.c (.int .i64 1))), o 5 (.mv (.t 20))]))))) (.seq (.seq (.reg false [o 21 (.mv (.t 5)), o 22 (.mv (.t 0)), o 23 (.len 1 (.t 22)), o 24 (.bin .lss (.t 21) (.t 23)), o 25 (.mv (.t 24)), go 26 25 true (.mv (.t 0)), go 27 25 true (.mv (.t 5)), go 28 25 true (.ia 1 (.t 26) (.t 27)), go 29 25 true (.ld none (.t 28)), go 30 25 true (.mv (.t 1)), go 31 25 true (.bin .eql (.t 29) (.t 30)), o 32 (.pick (.t 25) (.t 31) (.c (.bool false)))]) (.cond (.t 32) (.seq (.reg false [o 33 (.mv (.t 0)), o 4 (.mv (.t 33))]) .ret) .skip)) (.seq (.reg false [o 34 (.bslice 1 (.str []) 0 []), o 35 (.mv (.t 0)), o 36 (.mv (.t 5)), o 37 (.sl 1 (.t 35) (some (.t 36)) none none), o 38 (.app 1 16 (.str []) (.t 34) (.t 37)), o 6 (.mv (.t 38))]) (.seq (.reg false [o 39 (.bslice 1 (.str []) 0 []), o 40 (.mv (.t 0)), o 41 (.mv (.t 5)), o 42 (.sl 1 (.t 40) none (some (.t 41)) none), o 43 (.app 1 16 (.str []) (.t 39) (.t 42)), o 44 (.mv (.t 1)), o 45 (.bslice 1 (.str []) 1 [(0, .t 44)]), o 46 (.app 1 16 (.str []) (.t 43) (.t 45)), o 47 (.mv (.t 6)), o 48 (.app 1 16 (.str []) (.t 46) (.t 47)), o 4 (.mv (.t 48))]) .ret)))))
theorem comp53 : Compiled Try.prog 53 2 c53 [.t 4] := .fn Try.func53 (by kernel_rfl) (by kernel_rfl)
def c54 : MC := .seq (.reg false [o 4 (.mv (.c (.int .i64 0)))]) (.seq (.seq (.reg false [o 6 (.mv (.t 0)), o 7 (.len 1 (.t 6)), o 8 (.mv (.c (.int .i64 0)))]) (.block 0 (.loop (.seq (.reg false [o 9 (.bin .lss (.t 8) (.t 7))]) (.seq (.cond (.t 9) .skip (.exit 0)) (.seq (.block 1 (.seq (.reg false [o 10 (.mv (.t 8)), o 5 (.mv (.t 10))]) (.seq (.reg false [o 11 (.mv (.t 1)), o 12 (.mv (.t 0)), o 13 (.mv (.t 5)), o 14 (.ia 3 (.t 12) (.t 13)), o 15 (.ld (some 3) (.t 14)), o 16 (.callv (.t 11) [.t 15])]) (.cond (.t 16) (.seq (.reg false [o 17 (.mv (.t 5)), o 4 (.mv (.t 17))]) .ret) .skip)))) (.reg false [o 18 (.bin .add (.t 8) (.c (.int .i64 1))), o 8 (.mv (.t 18))]))))))) (.seq (.reg false [o 4 (.mv (.c (.int .i64 (-1))))]) .ret))
theorem comp54 : Compiled Try.prog 54 2 c54 [.t 4] := .fn Try.func54 (by kernel_rfl) (by kernel_rfl)
def c55 : MC := .seq (.reg false [o 2 (.box 3 (.t 0)), o 3 (.mv (.c (.bool false)))]) (.seq (.reg false [o 4 (.fa 0 (.t 2)), o 5 (.ld none (.t 4)), o 6 (.ld none (.t 1)), o 7 (.bin .eql (.t 5) (.t 6)), o 3 (.mv (.t 7))]) .ret)
theorem comp55 : Compiled Try.prog 55 2 c55 [.t 3] := .fn Try.func55 (by kernel_rfl) (by kernel_rfl)
def c56 : MC := .seq (.reg false [o 2 (.mv (.c (.int .i64 0)))]) (.seq (.reg false [o 3 (.mv (.c (.int .i64 0)))]) (.seq (.seq (.reg false [o 6 (.mv (.t 0)), o 7 (.len 1 (.t 6)), o 8 (.mv (.c (.int .i64 0)))]) (.block 0 (.loop (.seq (.reg false [o 9 (.bin .lss (.t 8) (.t 7))]) (.seq (.cond (.t 9) .skip (.exit 0)) (.seq (.block 1 (.seq (.reg false [o 10 (.ia 1 (.t 6) (.t 8)), o 11 (.ld none (.t 10)), o 5 (.mv (.t 11))]) (.seq (.reg false [o 12 (.mv (.t 5)), o 13 (.mv (.t 3)), o 14 (.bin .neq (.t 12) (.t 13))]) (.cond (.t 14) (.seq (.reg false [o 15 (.mv (.t 5)), o 2 (.mv (.t 15))]) .ret) .skip)))) (.reg false [o 16 (.bin .add (.t 8) (.c (.int .i64 1))), o 8 (.mv (.t 16))]))))))) (.seq (.reg false [o 17 (.mv (.t 3)), o 2 (.mv (.t 17))]) .ret)))
theorem comp56 : Compiled Try.prog 56 1 c56 [.t 2] := .fn Try.func56 (by kernel_rfl) (by kernel_rfl)
def c57 : MC := .seq (.reg false [o 4 (.mv (.c (.int .i64 0)))]) (.seq (.reg false [o 7 (.mv (.t 0)), o 8 (.call 64 [.t 7]), o 5 (.mv (.t 8))]) (.seq (.reg false [o 9 (.mv (.t 1)), o 10 (.call 64 [.t 9]), o 6 (.mv (.t 10))]) (.seq (.seq (.reg false [o 11 (.mv (.t 5))]) (.cond (.t 11) (.seq (.seq (.reg false [o 12 (.mv (.t 6))]) (.cond (.t 12) (.seq (.reg false [o 4 (.mv (.c (.int .i64 0)))]) .ret) .skip)) (.seq (.reg false [o 4 (.mv (.c (.int .i64 (-1))))]) .ret)) .skip)) (.seq (.seq (.reg false [o 13 (.mv (.t 6))]) (.cond (.t 13) (.seq (.reg false [o 4 (.mv (.c (.int .i64 1)))]) .ret) .skip)) (.seq (.seq (.reg false [o 14 (.mv (.t 0)), o 15 (.mv (.t 1)), o 16 (.bin .lss (.t 14) (.t 15))]) (.cond (.t 16) (.seq (.reg false [o 4 (.mv (.c (.int .i64 (-1))))]) .ret) .skip)) (.seq (.seq (.reg false [o 17 (.mv (.t 0)), o 18 (.mv (.t 1)), o 19 (.bin .gtr (.t 17) (.t 18))]) (.cond (.t 19) (.seq (.reg false [o 4 (.mv (.c (.int .i64 1)))]) .ret) .skip)) (.seq (.reg false [o 4 (.mv (.c (.int .i64 0)))]) .ret)))))))
theorem comp57 : Compiled Try.prog 57 2 c57 [.t 4] := .fn Try.func57 (by kernel_rfl) (by kernel_rfl)
def c58 : MC := .seq (.reg false [o 4 (.mv (.c (.int .i64 0)))]) (.seq (.reg false [o 7 (.mv (.t 0)), o 8 (.call 65 [.t 7]), o 5 (.mv (.t 8))]) (.seq (.reg false [o 9 (.mv (.t 1)), o 10 (.call 65 [.t 9]), o 6 (.mv (.t 10))]) (.seq (.seq (.reg false [o 11 (.mv (.t 5))]) (.cond (.t 11) (.seq (.seq (.reg false [o 12 (.mv (.t 6))]) (.cond (.t 12) (.seq (.reg false [o 4 (.mv (.c (.int .i64 0)))]) .ret) .skip)) (.seq (.reg false [o 4 (.mv (.c (.int .i64 (-1))))]) .ret)) .skip)) (.seq (.seq (.reg false [o 13 (.mv (.t 6))]) (.cond (.t 13) (.seq (.reg false [o 4 (.mv (.c (.int .i64 1)))]) .ret) .skip)) (.seq (.seq (.reg false [o 14 (.mv (.t 0)), o 15 (.mv (.t 1)), o 16 (.bin .lss (.t 14) (.t 15))]) (.cond (.t 16) (.seq (.reg false [o 4 (.mv (.c (.int .i64 (-1))))]) .ret) .skip)) (.seq (.seq (.reg false [o 17 (.mv (.t 0)), o 18 (.mv (.t 1)), o 19 (.bin .gtr (.t 17) (.t 18))]) (.cond (.t 19) (.seq (.reg false [o 4 (.mv (.c (.int .i64 1)))]) .ret) .skip)) (.seq (.reg false [o 4 (.mv (.c (.int .i64 0)))]) .ret)))))))
theorem comp58 : Compiled Try.prog 58 2 c58 [.t 4] := .fn Try.func58 (by kernel_rfl) (by kernel_rfl)
def c59 : MC := .seq (.reg false [o 2 (.mv (.c .nils))]) (.seq (.reg false [o 3 (.mv (.t 0)), o 4 (.call 66 [.c .nils, .t 3]), o 2 (.mv (.t 4))]) .ret)
theorem comp59 : Compiled Try.prog 59 1 c59 [.t 2] := .fn Try.func59 (by kernel_rfl) (by kernel_rfl)
def c60 : MC := .seq (.reg false [o 5 (.mv (.t 0)), o 6 (.len 1 (.t 5)), o 4 (.mv (.t 6))]) (.reg false [o 7 (.mv (.t 0)), o 8 (.mv (.t 4)), o 9 (.mv (.t 4)), o 10 (.cvi .u64 (.t 9)), o 11 (.call 63 [.t 10]), o 12 (.mv (.t 1)), o 13 (.call 67 [.t 7, .c (.int .i64 0), .t 8, .t 11, .t 12])])
theorem comp60 : Compiled Try.prog 60 2 c60 [] := .fn Try.func60 (by kernel_rfl) (by kernel_rfl)
def c61 : MC := .seq (.reg false [o 5 (.ld none (.t 1)), o 6 (.len 1 (.t 5)), o 7 (.mv (.c (.int .i64 0)))]) (.block 0 (.loop (.seq (.reg false [o 8 (.bin .lss (.t 7) (.t 6))]) (.seq (.cond (.t 8) .skip (.exit 0)) (.seq (.block 1 (.seq (.reg false [o 9 (.ia 3 (.t 5) (.t 7)), o 10 (.ld (some 3) (.t 9)), o 4 (.new 3 (.agg [.int .i64 0, .int .u64 0, .int .u64 0])), s (.st 3 (.t 4) (.t 10))]) (.seq (.reg false [o 11 (.mv (.t 0)), o 12 (.ld (some 3) (.t 4)), o 13 (.callv (.t 11) [.t 12]), o 14 (.un .not (.t 13))]) (.cond (.t 14) .ret .skip)))) (.reg false [o 15 (.bin .add (.t 7) (.c (.int .i64 1))), o 7 (.mv (.t 15))]))))))
theorem comp61 : Compiled Try.prog 61 2 c61 [] := .fn Try.func61 (by kernel_rfl) (by kernel_rfl)
def c66 : MC := .seq (.reg false [o 2 (.box 1 (.t 0)), o 4 (.mv (.c .nils))]) (.seq (.seq (.reg false [o 6 (.mv (.t 1))]) (.block 0 .bad)) (.seq (.reg false [o 12 (.ld none (.t 2)), o 4 (.mv (.t 12))]) .ret))
theorem comp66 : Compiled Try.prog 66 2 c66 [.t 4] := .fn Try.func66 (by kernel_rfl) (by kernel_rfl)
theorem mixed : Try.prog.follows .mixedOrders = true := by kernel_rfl
abbrev G0 : Nat → Option (List V) := (fun _ => none)

end Go.Proofs.Ytoopcfgmffpogaa

/- The library's contracts that are used, laid at this program by the kit's own tool (lay-shelf, lay-plain). -/
namespace Go.Proofs
open Go.Shelf
def Try.lays190_ren : Go.Shelf.Ren := ⟨fun | 190 => 52 | 125 => 63 | 258 => 62 | 128 => 77 | 129 => 78 | 302 => 68 | 303 => 69 | 304 => 70 | 305 => 71 | 306 => 72 | 307 => 73 | 308 => 74 | 309 => 75 | 310 => 76 | 333 => 87 | 329 => 88 | 330 => 89 | 334 => 90 | 335 => 91 | 336 => 92 | 344 => 96 | n => n, fun | 31 => 51 | 9 => 9 | 3 => 3 | 46 => 91 | 0 => 0 | 51 => 107 | 53 => 23 | 4 => 4 | 183 => 99 | 182 => 98 | 131 => 104 | 5 => 5 | 218 => 114 | 222 => 118 | 228 => 122 | 229 => 123 | n => n, fun | n => n⟩
theorem Try.lays190 : Go.Proofs.Lays.n190 Try.prog Try.lays190_ren := {
  mixed := by kernel_rfl
  f125 := Try.func63.trans (congrArg some (by kernel_rfl))
  f128 := Try.func77.trans (congrArg some (by kernel_rfl))
  f129 := Try.func78.trans (congrArg some (by kernel_rfl))
  f190 := Try.func52.trans (congrArg some (by kernel_rfl))
  f258 := Try.func62.trans (congrArg some (by kernel_rfl))
  f302 := Try.func68.trans (congrArg some (by kernel_rfl))
  f303 := Try.func69.trans (congrArg some (by kernel_rfl))
  f304 := Try.func70.trans (congrArg some (by kernel_rfl))
  f305 := Try.func71.trans (congrArg some (by kernel_rfl))
  f306 := Try.func72.trans (congrArg some (by kernel_rfl))
  f307 := Try.func73.trans (congrArg some (by kernel_rfl))
  f308 := Try.func74.trans (congrArg some (by kernel_rfl))
  f309 := Try.func75.trans (congrArg some (by kernel_rfl))
  f310 := Try.func76.trans (congrArg some (by kernel_rfl))
  f329 := Try.func88.trans (congrArg some (by kernel_rfl))
  f330 := Try.func89.trans (congrArg some (by kernel_rfl))
  f333 := Try.func87.trans (congrArg some (by kernel_rfl))
  f334 := Try.func90.trans (congrArg some (by kernel_rfl))
  f335 := Try.func91.trans (congrArg some (by kernel_rfl))
  f336 := Try.func92.trans (congrArg some (by kernel_rfl))
  f344 := Try.func96.trans (congrArg some (by kernel_rfl))
  t0 := Try.underlying0
  a0 := Try.isAgg0
  z0 := Try.sizeOf0
  v0 := Try.zeroValue0
  t3 := Try.underlying3
  a3 := Try.isAgg3
  z3 := Try.sizeOf3
  v3 := Try.zeroValue3
  t4 := Try.underlying4
  a4 := Try.isAgg4
  z4 := Try.sizeOf4
  v4 := Try.zeroValue4
  t5 := Try.underlying5
  a5 := Try.isAgg5
  z5 := Try.sizeOf5
  v5 := Try.zeroValue5
  t9 := Try.underlying9
  a9 := Try.isAgg9
  z9 := Try.sizeOf9
  v9 := Try.zeroValue9
  t31 := Try.underlying51
  a31 := Try.isAgg51
  z31 := Try.sizeOf51
  v31 := Try.zeroValue51
  t46 := Try.underlying91
  a46 := Try.isAgg91
  z46 := Try.sizeOf91
  v46 := Try.zeroValue91
  t51 := Try.underlying107
  a51 := Try.isAgg107
  z51 := Try.sizeOf107
  v51 := Try.zeroValue107
  t53 := Try.underlying23
  a53 := Try.isAgg23
  z53 := Try.sizeOf23
  v53 := Try.zeroValue23
  t131 := Try.underlying104
  a131 := Try.isAgg104
  z131 := Try.sizeOf104
  v131 := Try.zeroValue104
  t182 := Try.underlying98
  a182 := Try.isAgg98
  z182 := Try.sizeOf98
  v182 := Try.zeroValue98
  t183 := Try.underlying99
  a183 := Try.isAgg99
  z183 := Try.sizeOf99
  v183 := Try.zeroValue99
  t218 := Try.underlying114
  a218 := Try.isAgg114
  z218 := Try.sizeOf114
  v218 := Try.zeroValue114
  t222 := Try.underlying118
  a222 := Try.isAgg118
  z222 := Try.sizeOf118
  v222 := Try.zeroValue118
  t228 := Try.underlying122
  a228 := Try.isAgg122
  z228 := Try.sizeOf122
  v228 := Try.zeroValue122
  t229 := Try.underlying123
  a229 := Try.isAgg123
  z229 := Try.sizeOf123
  v229 := Try.zeroValue123 }
open Go.Sort Go.RowKit in
theorem Try.slices_Sort_string (blk off cap : Nat) (ss : List (List UInt8)) (w : World) (hH : Holds encStr w blk off ss.toArray) (hblk : blk < w.heap.size) (hsz : ss.length < 4611686018427387904) :
    Calls Try.prog 52 #[.slice (some ⟨blk, off, none⟩) ss.length cap] w fun e w' =>
      e = .returned (.tuple #[]) ∧ ∃ n os, w' = grow (putRow encStr (Sort.ahead w n) blk off (ss.mergeSort fun x y => decide (x ≤ y)).toArray) os := Any.slices_Sort_string Try.lays190 blk off cap ss w hH hblk hsz
def Try.laysNm237_ren : Go.Shelf.Ren := ⟨fun | 37 => 65 | n => n, fun | 3 => 3 | 4 => 4 | n => n, fun | n => n⟩
theorem Try.laysNm237 : Go.Proofs.Lays2.n37 Try.prog Try.laysNm237_ren := {
  mixed := by kernel_rfl
  f37 := Try.func65.trans (congrArg some (by kernel_rfl))
  t3 := Try.underlying3
  a3 := Try.isAgg3
  z3 := Try.sizeOf3
  v3 := Try.zeroValue3
  t4 := Try.underlying4
  a4 := Try.isAgg4
  z4 := Try.sizeOf4
  v4 := Try.zeroValue4 }
open Go.RowKit Go.Lib in
/-- cmp.isNaN[int]: 'x != x': false. (LAID: no walk: one application.) -/
theorem Try.cmp_isNaN_int2 (x : Int) (w : World) :
    Calls Try.prog 65 #[.int .i64 x] w fun e w' => e = .returned (.bool false) ∧ w' = w := Any.cmp_isNaN_int2 Try.laysNm237 x w
open Go.RowKit Go.Sort in
/-- .. and plain. (LAID: no walk: one application.) -/
theorem Try.slices_Sort_string_none (p : Option Addr) (cap : Nat) (w : World) :
    Calls Try.prog 52 #[.slice p 0 cap] w fun e w' => e = .returned (.tuple #[]) ∧ w' = w := Any.slices_Sort_string_none Try.lays190 p cap w
end Go.Proofs

/- Thing (chapter 9): hash, keys: plain words. -/
namespace Go.Proofs.Ytoopcfgmffpogaa
open Go Go.MW
set_option linter.unusedVariables false
set_option linter.unusedSimpArgs false

def hstep (n : Int) (c : UInt8) : Int := IntKind.u64.wrap (bitOp .xor .u64 n c.toNat * 1099511628211)
def hash (k : List UInt8) : Int := k.foldl hstep 14695981039346656037
def keyOK (k : List UInt8) : Bool := decide (1 ≤ k.length ∧ k.length ≤ 16)

theorem keyOK_iff {k : List UInt8} : keyOK k = true ↔ k ≠ [] ∧ k.length ≤ 16 := by
  unfold keyOK
  rw [decide_eq_true_eq, ← List.length_pos_iff]
  omega

end Go.Proofs.Ytoopcfgmffpogaa

/- Thing (chapter 9): may a text be a key; its hash; its place. -/
namespace Go.Proofs.Ytoopcfgmffpogaa
open Go Go.MW
set_option linter.unusedVariables false
set_option linter.unusedSimpArgs false
set_option maxRecDepth 8000

theorem key_fn (k : List UInt8) : Does Try.prog G0 false 35 [.str k] (.bool (keyOK k)) := by
  refine Does.intro mixed comp35 ?_
  unfold c35
  simp -implicitDefEqProofs (disch := omega) only [mwx, ne_eq, false_implies, implies_true, forall_eq_or_imp, MW.get, ev, evs, argFr, resK, packV, slHK, partsV, partsS, setR, Int.cast_ofNat_Int, Int.natCast_zero, Int.natCast_one, Nat.reduceLeDiff, reduceIte, Nat.reduceEqDiff, Nat.reduceBEq, reduceCtorEq, Nat.reduceAdd, Nat.reduceMul, Nat.reduceSub, Nat.reduceLT, Int.reduceToNat, Int.reduceLT, Int.reduceLE, Int.reduceEq, Int.reduceAdd, Int.reduceNeg, Int.reduceMul, Int.reduceSub]
  refine xg_dec (fun h => ?_) fun h => ?_
  · simp -implicitDefEqProofs (disch := omega) only [h, mwx, ne_eq, false_implies, implies_true, forall_eq_or_imp, MW.get, ev, evs, argFr, resK, packV, slHK, partsV, partsS, setR, Int.cast_ofNat_Int, Int.natCast_zero, Int.natCast_one, Nat.reduceLeDiff, reduceIte, Nat.reduceEqDiff, Nat.reduceBEq, reduceCtorEq, Nat.reduceAdd, Nat.reduceMul, Nat.reduceSub, Nat.reduceLT, Int.reduceToNat, Int.reduceLT, Int.reduceLE, Int.reduceEq, Int.reduceAdd, Int.reduceNeg, Int.reduceMul, Int.reduceSub]
    refine frz_bool ?_
    unfold keyOK
    rw [decide_eq_decide]
    omega
  · simp -implicitDefEqProofs (disch := omega) only [h, mwx, ne_eq, false_implies, implies_true, forall_eq_or_imp, MW.get, ev, evs, argFr, resK, packV, slHK, partsV, partsS, setR, Int.cast_ofNat_Int, Int.natCast_zero, Int.natCast_one, Nat.reduceLeDiff, reduceIte, Nat.reduceEqDiff, Nat.reduceBEq, reduceCtorEq, Nat.reduceAdd, Nat.reduceMul, Nat.reduceSub, Nat.reduceLT, Int.reduceToNat, Int.reduceLT, Int.reduceLE, Int.reduceEq, Int.reduceAdd, Int.reduceNeg, Int.reduceMul, Int.reduceSub]
    refine frz_bool ?_
    unfold keyOK
    symm
    rw [decide_eq_false_iff_not]
    omega

theorem hash_take {k : List UInt8} {i : Nat} (h : i < k.length) : hash (k.take (i + 1)) = hstep (hash (k.take i)) (k.getD i 0) := by
  unfold hash
  rw [List.take_add_one, List.foldl_append, List.getElem?_eq_getElem h, List.getD_eq_getElem?_getD, List.getElem?_eq_getElem h]
  rfl

theorem hash_range (k : List UInt8) : 0 ≤ hash k ∧ hash k < 2 ^ 64 := by
  rcases Nat.eq_zero_or_pos k.length with h | h
  · rw [List.length_eq_zero_iff.1 h]; decide
  · have := hash_take (k := k) (i := k.length - 1) (by omega)
    rw [show k.length - 1 + 1 = k.length by omega, List.take_length] at this
    rw [this, hstep, wrap_u64i]
    omega

theorem hash_fn (k : List UInt8) (hk : k.length ≤ 1000000) : Does Try.prog G0 false 38 [.str k] (.int .u64 (hash k)) := by
  refine Does.intro mixed comp38 ?_
  unfold c38
  simp -implicitDefEqProofs (disch := omega) only [mwx, ne_eq, false_implies, implies_true, forall_eq_or_imp, MW.get, ev, evs, argFr, resK, packV, slHK, partsV, partsS, setR, Int.cast_ofNat_Int, Int.natCast_zero, Int.natCast_one, Nat.reduceLeDiff, reduceIte, Nat.reduceEqDiff, Nat.reduceBEq, reduceCtorEq, Nat.reduceAdd, Nat.reduceMul, Nat.reduceSub, Nat.reduceLT, Int.reduceToNat, Int.reduceLT, Int.reduceLE, Int.reduceEq, Int.reduceAdd, Int.reduceNeg, Int.reduceMul, Int.reduceSub]
  refine xl_loop (fun m st => ∃ i : Nat, m + i = k.length ∧ get st.fr 0 = .str k ∧ get st.fr 3 = .int .u64 (hash (k.take i)) ∧ get st.fr 6 = .int .i64 k.length ∧ get st.fr 7 = .int .i64 i) k.length ⟨0, by omega, rfl, rfl, rfl, rfl⟩ ?_
  rintro J hJ m fr H ⟨i, h1, h2, h3, h4, h5⟩
  simp -implicitDefEqProofs (disch := omega) only [h2, h3, h4, h5, mwx, ne_eq, false_implies, implies_true, forall_eq_or_imp, MW.get, ev, evs, argFr, resK, packV, slHK, partsV, partsS, setR, Int.cast_ofNat_Int, Int.natCast_zero, Int.natCast_one, Nat.reduceLeDiff, reduceIte, Nat.reduceEqDiff, Nat.reduceBEq, reduceCtorEq, Nat.reduceAdd, Nat.reduceMul, Nat.reduceSub, Nat.reduceLT, Int.reduceToNat, Int.reduceLT, Int.reduceLE, Int.reduceEq, Int.reduceAdd, Int.reduceNeg, Int.reduceMul, Int.reduceSub]
  refine xc_dec (fun h => ?_) fun h => ?_
  · have hi : i < k.length := by omega
    have hw : IntKind.u64.wrap ((k.getD i 0).toNat : Int) = (k.getD i 0).toNat := wrap_u64' (by have := (k.getD i 0).toNat_lt; omega)
    simp -implicitDefEqProofs (disch := omega) only [h2, h3, h4, h5, u8V, hi, hw, mwx, ne_eq, false_implies, implies_true, forall_eq_or_imp, MW.get, ev, evs, argFr, resK, packV, slHK, partsV, partsS, setR, Int.cast_ofNat_Int, Int.natCast_zero, Int.natCast_one, Nat.reduceLeDiff, reduceIte, Nat.reduceEqDiff, Nat.reduceBEq, reduceCtorEq, Nat.reduceAdd, Nat.reduceMul, Nat.reduceSub, Nat.reduceLT, Int.reduceToNat, Int.reduceLT, Int.reduceLE, Int.reduceEq, Int.reduceAdd, Int.reduceNeg, Int.reduceMul, Int.reduceSub]
    exact ⟨m - 1, by omega, hJ _ _ ⟨i + 1, by omega, h2, by rw [hash_take hi]; rfl, h4, rfl⟩⟩
  · simp -implicitDefEqProofs (disch := omega) only [h3, mwx, ne_eq, false_implies, implies_true, forall_eq_or_imp, MW.get, ev, evs, argFr, resK, packV, slHK, partsV, partsS, setR, Int.cast_ofNat_Int, Int.natCast_zero, Int.natCast_one, Nat.reduceLeDiff, reduceIte, Nat.reduceEqDiff, Nat.reduceBEq, reduceCtorEq, Nat.reduceAdd, Nat.reduceMul, Nat.reduceSub, Nat.reduceLT, Int.reduceToNat, Int.reduceLT, Int.reduceLE, Int.reduceEq, Int.reduceAdd, Int.reduceNeg, Int.reduceMul, Int.reduceSub]
    obtain rfl : i = k.length := by omega
    exact frz_int (by rw [List.take_length])

/-- A text's place among so many. -/
def homeN (k : List UInt8) (n : Int) : Int := if n < 1 then 0 else hash k % n

theorem thomeN_fn (k : List UInt8) (hk : k.length ≤ 1000000) (n : Int) (hn : n ≤ 9223372036854775807) : Does Try.prog G0 false 40 [.str k, .int .i64 n] (.int .i64 (homeN k n)) := by
  refine Does.intro mixed comp40 ?_
  unfold c40
  simp -implicitDefEqProofs (disch := omega) only [mwx, ne_eq, false_implies, implies_true, forall_eq_or_imp, MW.get, ev, evs, argFr, resK, packV, slHK, partsV, partsS, setR, Int.cast_ofNat_Int, Int.natCast_zero, Int.natCast_one, Nat.reduceLeDiff, reduceIte, Nat.reduceEqDiff, Nat.reduceBEq, reduceCtorEq, Nat.reduceAdd, Nat.reduceMul, Nat.reduceSub, Nat.reduceLT, Int.reduceToNat, Int.reduceLT, Int.reduceLE, Int.reduceEq, Int.reduceAdd, Int.reduceNeg, Int.reduceMul, Int.reduceSub]
  refine xc_dec (fun h => ?_) fun h => ?_
  · simp -implicitDefEqProofs (disch := omega) only [mwx, ne_eq, false_implies, implies_true, forall_eq_or_imp, MW.get, ev, evs, argFr, resK, packV, slHK, partsV, partsS, setR, Int.cast_ofNat_Int, Int.natCast_zero, Int.natCast_one, Nat.reduceLeDiff, reduceIte, Nat.reduceEqDiff, Nat.reduceBEq, reduceCtorEq, Nat.reduceAdd, Nat.reduceMul, Nat.reduceSub, Nat.reduceLT, Int.reduceToNat, Int.reduceLT, Int.reduceLE, Int.reduceEq, Int.reduceAdd, Int.reduceNeg, Int.reduceMul, Int.reduceSub]
    exact frz_int (by unfold homeN; rw [if_pos (by omega)])
  · simp -implicitDefEqProofs (disch := omega) only [mwx, ne_eq, false_implies, implies_true, forall_eq_or_imp, MW.get, ev, evs, argFr, resK, packV, slHK, partsV, partsS, setR, Int.cast_ofNat_Int, Int.natCast_zero, Int.natCast_one, Nat.reduceLeDiff, reduceIte, Nat.reduceEqDiff, Nat.reduceBEq, reduceCtorEq, Nat.reduceAdd, Nat.reduceMul, Nat.reduceSub, Nat.reduceLT, Int.reduceToNat, Int.reduceLT, Int.reduceLE, Int.reduceEq, Int.reduceAdd, Int.reduceNeg, Int.reduceMul, Int.reduceSub]
    refine Does.call (hash_fn k hk) (fr1 (.str _)) ?_
    have hr := hash_range k
    have h1 : IntKind.u64.wrap n = n := by rw [wrap_u64i]; omega
    have h2 : (hash k).tmod n = hash k % n := Int.tmod_eq_emod_of_nonneg (by omega)
    have h4 := Int.emod_nonneg (hash k) (b := n) (by omega)
    have h5 := Int.emod_lt_of_pos (hash k) (b := n) (by omega)
    have h3 : IntKind.i64.wrap (hash k % n) = hash k % n := wrap64 (by omega) (by omega)
    have h6 : ¬ n = 0 := by omega
    simp -implicitDefEqProofs (disch := omega) only [h1, h2, h3, h6, mwx, ne_eq, false_implies, implies_true, forall_eq_or_imp, MW.get, ev, evs, argFr, resK, packV, slHK, partsV, partsS, setR, Int.cast_ofNat_Int, Int.natCast_zero, Int.natCast_one, Nat.reduceLeDiff, reduceIte, Nat.reduceEqDiff, Nat.reduceBEq, reduceCtorEq, Nat.reduceAdd, Nat.reduceMul, Nat.reduceSub, Nat.reduceLT, Int.reduceToNat, Int.reduceLT, Int.reduceLE, Int.reduceEq, Int.reduceAdd, Int.reduceNeg, Int.reduceMul, Int.reduceSub]
    exact frz_int (by unfold homeN; rw [if_neg (by omega)])

end Go.Proofs.Ytoopcfgmffpogaa

/- Thing (chapter 9): tags, as keys of a map: the plain law. -/
namespace Go.Proofs.Ytoopcfgmffpogaa
open Go Go.MW
set_option linter.unusedVariables false
set_option linter.unusedSimpArgs false

/-- May a text be a tag? -/
def okT (s : List UInt8) : Bool := decide (1 ≤ s.length ∧ s.length ≤ 8)
theorem okT_iff {s : List UInt8} : okT s = true ↔ 1 ≤ s.length ∧ s.length ≤ 8 := by simp [okT]

/-- A tag's nine bytes. -/
def tagL (s : List UInt8) : List Nat := if okT s then s.map (·.toNat) ++ List.replicate (8 - s.length) 0 ++ [s.length] else List.replicate 9 0
def tagV (s : List UInt8) : V := .agg ((tagL s).map fun n : Nat => V.int .u8 n)
abbrev tagK : List Nat := [9, 0, 0, 0, 0, 0, 0, 0, 0, 0]
abbrev tagK' : List Nat := [0, 0, 0, 0, 0, 0, 0, 0, 0]

theorem tagL_length (s : List UInt8) : (tagL s).length = 9 := by
  unfold tagL
  split
  · rename_i h
    have := okT_iff.1 h
    simp
    omega
  · simp

theorem eqs_ints : ∀ (a b : List Nat), a.length = b.length → eqs (List.replicate a.length 0) (a.map fun n : Nat => V.int .u8 n) (b.map fun n : Nat => V.int .u8 n) = some (decide (a = b))
  | [], [], _ => rfl
  | x :: a, y :: b, h => by
    have ih := eqs_ints a b (by simpa using h)
    simp only [List.length_cons, List.replicate_succ, List.map_cons, eqs, ih]
    have : eq1 0 (V.int .u8 (x : Int)) (V.int .u8 (y : Int)) = some (decide (x = y)) := by
      simp only [eq1, if_true, Option.some.injEq, decide_eq_decide]
      omega
    rw [this]
    by_cases h1 : x = y <;> by_cases h2 : a = b <;> simp [h1, h2]

theorem tagL_inj {a b : List UInt8} (ha : okT a = true) (hb : okT b = true) (h : tagL a = tagL b) : a = b := by
  unfold tagL at h
  rw [if_pos ha, if_pos hb] at h
  have la := okT_iff.1 ha
  have lb := okT_iff.1 hb
  have h1 := congrArg (fun l => l.getLast?) h
  simp only [List.getLast?_concat, Option.some.injEq] at h1
  have h2 := congrArg (fun l => l.take a.length) h
  simp only [List.append_assoc] at h2
  rw [List.take_left' (by simp), List.take_left' (by simp [h1])] at h2
  have hinj : ∀ x y : List UInt8, x.map (·.toNat) = y.map (·.toNat) → x = y := fun x => by
    induction x with
    | nil => intro y hy; cases y with
      | nil => rfl
      | cons _ _ => cases hy
    | cons c x ih => intro y hy; cases y with
      | nil => cases hy
      | cons d y =>
        simp only [List.map_cons, List.cons.injEq] at hy
        rw [UInt8.toNat_inj.1 hy.1, ih y hy.2]
  exact hinj a b h2

theorem keq_tag {a b : List UInt8} (ha : okT a = true) (hb : okT b = true) : keq tagK (tagV a) (tagV b) = some (decide (a = b)) := by
  have h := eqs_ints (tagL a) (tagL b) (by rw [tagL_length, tagL_length])
  rw [tagL_length] at h
  show eqs tagK' _ _ = _
  refine Eq.trans h ?_
  congr 1
  rw [decide_eq_decide]
  exact ⟨tagL_inj ha hb, fun e => by rw [e]⟩

/-- Is it no tag? -/
theorem eqs_none {s : List UInt8} : eqs tagK' ((tagL s).map fun n : Nat => V.int .u8 n) [.int .u8 0, .int .u8 0, .int .u8 0, .int .u8 0, .int .u8 0, .int .u8 0, .int .u8 0, .int .u8 0, .int .u8 0] = some (!okT s) := by
  have h := eqs_ints (tagL s) (List.replicate 9 0) (by rw [tagL_length]; rfl)
  rw [tagL_length] at h
  refine Eq.trans h ?_
  congr 1
  rcases ho : okT s with _ | _
  · unfold tagL; rw [if_neg (by simp [ho])]; rfl
  · have hl := okT_iff.1 ho
    show decide _ = false
    rw [decide_eq_false_iff_not]
    intro e
    unfold tagL at e
    rw [if_pos ho] at e
    have h1 := congrArg (fun l => l.getLast?) e
    simp only [List.getLast?_concat] at h1
    have : (List.replicate 9 0 : List Nat).getLast? = some 0 := rfl
    rw [this] at h1
    simp only [Option.some.injEq] at h1
    omega

/-- Each text once, in the order in which they come first. -/
def ddA (ds : List (List UInt8)) (s : List UInt8) : List (List UInt8) := if s ∈ ds then ds else ds ++ [s]
def ddL (l : List (List UInt8)) : List (List UInt8) := l.foldl ddA []
theorem ddL_take {l : List (List UInt8)} {i : Nat} (h : i < l.length) : ddL (l.take (i + 1)) = ddA (ddL (l.take i)) (l.getD i []) := by
  unfold ddL
  rw [List.take_add_one, List.foldl_append, List.getElem?_eq_getElem h, List.getD_eq_getElem?_getD, List.getElem?_eq_getElem h]
  rfl
theorem ddL_spec : ∀ (l ds : List (List UInt8)), ds.Nodup → (l.foldl ddA ds).Nodup ∧ ∀ s, s ∈ l.foldl ddA ds ↔ s ∈ ds ∨ s ∈ l
  | [], ds, h => ⟨h, fun s => by simp⟩
  | a :: l, ds, h => by
    rw [List.foldl_cons]
    by_cases ha : a ∈ ds
    · have e : ddA ds a = ds := by unfold ddA; rw [if_pos ha]
      rw [e]
      obtain ⟨h1, h2⟩ := ddL_spec l ds h
      refine ⟨h1, fun s => (h2 s).trans ?_⟩
      rw [List.mem_cons]
      constructor
      · rintro (h | h)
        · exact .inl h
        · exact .inr (.inr h)
      · rintro (h | rfl | h)
        · exact .inl h
        · exact .inl ha
        · exact .inr h
    · have e : ddA ds a = ds ++ [a] := by unfold ddA; rw [if_neg ha]
      rw [e]
      obtain ⟨h1, h2⟩ := ddL_spec l (ds ++ [a]) (by
        rw [List.nodup_append]
        refine ⟨h, by simp, fun x hx y hy exy => ?_⟩
        obtain rfl : y = a := by simpa using hy
        rw [exy] at hx
        exact ha hx)
      refine ⟨h1, fun s => (h2 s).trans ?_⟩
      rw [List.mem_append, List.mem_singleton, List.mem_cons]
      constructor
      · rintro ((h | h) | h)
        · exact .inl h
        · exact .inr (.inl h)
        · exact .inr (.inr h)
      · rintro (h | h | h)
        · exact .inl (.inl h)
        · exact .inl (.inr h)
        · exact .inr h
theorem ddL_nodup (l : List (List UInt8)) : (ddL l).Nodup := (ddL_spec l [] List.nodup_nil).1
theorem ddL_mem {l : List (List UInt8)} {s : List UInt8} : s ∈ ddL l ↔ s ∈ l := ((ddL_spec l [] List.nodup_nil).2 s).trans (by simp)
theorem ddL_length : ∀ (l : List (List UInt8)), (ddL l).length ≤ l.length := fun l => by
  have : ∀ (l ds : List (List UInt8)), (l.foldl ddA ds).length ≤ ds.length + l.length := fun l => by
    induction l with
    | nil => intro ds; simp
    | cons a l ih =>
      intro ds
      rw [List.foldl_cons]
      refine Nat.le_trans (ih _) ?_
      unfold ddA
      split <;> simp <;> omega
  have h := this l []
  simpa [ddL] using h

/-- The map's entries. -/
def ents : Nat → List (List UInt8) → List (Nat × V × V)
  | _, [] => []
  | k, s :: r => (k, tagV s, .str s) :: ents (k + 1) r
theorem ents_length : ∀ (k : Nat) (l : List (List UInt8)), (ents k l).length = l.length
  | _, [] => rfl
  | k, s :: r => by simp [ents, ents_length (k + 1) r]
theorem ents_append : ∀ (k : Nat) (l : List (List UInt8)) (s : List UInt8), ents k (l ++ [s]) = ents k l ++ [(k + l.length, tagV s, .str s)]
  | k, [], s => by simp [ents]
  | k, a :: l, s => by simp only [List.cons_append, ents, ents_append (k + 1) l s, List.length_cons]; rw [show k + 1 + l.length = k + (l.length + 1) by omega]
theorem ents_at : ∀ (k : Nat) (l : List (List UInt8)) (i : Nat), i < l.length → (ents k l).getD i e0V = (k + i, tagV (l.getD i []), .str (l.getD i []))
  | k, [], i, h => by simp at h
  | k, a :: l, 0, h => rfl
  | k, a :: l, i + 1, h => by
    simp only [ents, List.getD_cons_succ]
    rw [ents_at (k + 1) l i (by simpa using h), show k + 1 + i = k + (i + 1) by omega]
def valS (e : Nat × V × V) : List UInt8 := match e.2.2 with
  | .str s => s
  | _ => []
theorem ents_val : ∀ (k : Nat) (l : List (List UInt8)), (ents k l).map valS = l
  | _, [] => rfl
  | k, s :: r => by simp [ents, valS, ents_val (k + 1) r]
theorem ents_str : ∀ (k : Nat) (l : List (List UInt8)) (e : Nat × V × V), e ∈ ents k l → e.2.2 = .str (valS e)
  | _, [], e, h => by cases h
  | k, s :: r, e, h => by
    rcases List.mem_cons.1 h with rfl | h
    · rfl
    · exact ents_str (k + 1) r e h

theorem findV_ents {s : List UInt8} (hs : okT s = true) : ∀ (ds : List (List UInt8)) (k i : Nat), (∀ d ∈ ds, okT d = true) → ds.Nodup →
    (s ∈ ds → ∃ j, j < ds.length ∧ ds.getD j [] = s ∧ findV tagK (tagV s) (ents k ds) i = some (some (i + j))) ∧ (s ∉ ds → findV tagK (tagV s) (ents k ds) i = some none)
  | [], k, i, hd, hn => ⟨fun h => (by cases h), fun _ => rfl⟩
  | d :: ds, k, i, hd, hn => by
    have hq := keq_tag hs (hd d (by simp))
    obtain ⟨h1, h2⟩ := findV_ents hs ds (k + 1) (i + 1) (fun x hx => hd x (by simp [hx])) (List.nodup_cons.1 hn).2
    by_cases hsd : s = d
    · subst hsd
      refine ⟨fun _ => ⟨0, by simp, rfl, ?_⟩, fun h => absurd (by simp) h⟩
      simp only [ents, findV, hq, decide_true]
      rfl
    · have hq' : keq tagK (tagV s) (tagV d) = some false := by rw [hq, decide_eq_false hsd]
      refine ⟨fun h => ?_, fun h => ?_⟩
      · obtain ⟨j, g1, g2, g3⟩ := h1 (by
          rcases List.mem_cons.1 h with h | h
          · exact absurd h hsd
          · exact h)
        refine ⟨j + 1, by simpa using g1, by simpa using g2, ?_⟩
        simp only [ents, findV, hq']
        rw [g3, show i + 1 + j = i + (j + 1) by omega]
      · simp only [ents, findV, hq']
        exact h2 fun h' => h (by simp [h'])

theorem le_tr' (a b c : List UInt8) (h1 : decide (a ≤ b) = true) (h2 : decide (b ≤ c) = true) : decide (a ≤ c) = true := by
  simp only [decide_eq_true_eq] at *
  exact List.le_trans h1 h2
theorem le_to' (a b : List UInt8) : (decide (a ≤ b) || decide (b ≤ a)) = true := by
  simp only [Bool.or_eq_true, decide_eq_true_eq]
  exact List.le_total a b
theorem srt_sorted' (l : List (List UInt8)) : (srt l).Pairwise fun a b => a ≤ b := by
  have := List.pairwise_mergeSort le_tr' le_to' l
  refine List.Pairwise.imp (fun h => ?_) this
  simpa using h
theorem srt_congr' {l l' : List (List UInt8)} (h : l.Perm l') : srt l = srt l' :=
  List.Perm.eq_of_pairwise (le := fun a b => a ≤ b) (fun a b _ _ h1 h2 => List.le_antisymm h1 h2) (srt_sorted' l) (srt_sorted' l') ((srt_perm l).trans (h.trans (srt_perm l').symm))

/-- Tags, each once, in their order. -/
def tagsT (l : List (List UInt8)) : List (List UInt8) × Int :=
  if l.all okT = true ∧ (ddL l).length ≤ 3 then (srt (ddL l), 0) else ([], 90)

end Go.Proofs.Ytoopcfgmffpogaa

/- Thing (chapter 9): tags. -/
namespace Go.Proofs.Ytoopcfgmffpogaa
open Go Go.MW
set_option linter.unusedSimpArgs false
set_option linter.unusedVariables false
set_option maxRecDepth 8000

theorem sorts : Sorts Try.prog 52 := fun blk off cap ss w h1 h2 h3 => Try.slices_Sort_string blk off cap ss w h1 h2 h3
theorem sorts0 (w : World) : Calls Try.prog 52 #[.slice none 0 0] w fun e w' => e = .returned (.tuple #[]) ∧ w' = w := Try.slices_Sort_string_none none 0 w

theorem tag_free (s : List UInt8) {im : Bool} : Free im (tagV s) := .agg fun i hi => by
  unfold tagL at *
  simp only [List.length_map] at hi
  rw [List.getD_eq_getElem?_getD, List.getElem?_map, List.getElem?_eq_getElem (by simpa using hi)]
  exact .int _ _

theorem short_cases {s : List UInt8} (h1 : 1 ≤ s.length) (h2 : s.length ≤ 8) : (∃ a, s = [a]) ∨ (∃ a b, s = [a, b]) ∨ (∃ a b c, s = [a, b, c]) ∨ (∃ a b c d, s = [a, b, c, d]) ∨ (∃ a b c d e, s = [a, b, c, d, e]) ∨ (∃ a b c d e f, s = [a, b, c, d, e, f]) ∨ (∃ a b c d e f g, s = [a, b, c, d, e, f, g]) ∨ ∃ a b c d e f g h, s = [a, b, c, d, e, f, g, h] := by
  rcases s with _ | ⟨a, _ | ⟨b, _ | ⟨c, _ | ⟨d, _ | ⟨e, _ | ⟨f, _ | ⟨g, _ | ⟨h, _ | ⟨i, s⟩⟩⟩⟩⟩⟩⟩⟩⟩
  · simp at h1
  · exact .inl ⟨_, rfl⟩
  · exact .inr (.inl ⟨_, _, rfl⟩)
  · exact .inr (.inr (.inl ⟨_, _, _, rfl⟩))
  · exact .inr (.inr (.inr (.inl ⟨_, _, _, _, rfl⟩)))
  · exact .inr (.inr (.inr (.inr (.inl ⟨_, _, _, _, _, rfl⟩))))
  · exact .inr (.inr (.inr (.inr (.inr (.inl ⟨_, _, _, _, _, _, rfl⟩)))))
  · exact .inr (.inr (.inr (.inr (.inr (.inr (.inl ⟨_, _, _, _, _, _, _, rfl⟩))))))
  · exact .inr (.inr (.inr (.inr (.inr (.inr (.inr ⟨_, _, _, _, _, _, _, _, rfl⟩))))))
  · simp at h2

theorem of_fn (s : List UInt8) : Does Try.prog G0 false 51 [.str s] (tagV s) := by
  have w1 : IntKind.u8.wrap 1 = 1 := by decide
  have w2 : IntKind.u8.wrap 2 = 2 := by decide
  have w3 : IntKind.u8.wrap 3 = 3 := by decide
  have w4 : IntKind.u8.wrap 4 = 4 := by decide
  have w5 : IntKind.u8.wrap 5 = 5 := by decide
  have w6 : IntKind.u8.wrap 6 = 6 := by decide
  have w7 : IntKind.u8.wrap 7 = 7 := by decide
  have w8 : IntKind.u8.wrap 8 = 8 := by decide
  by_cases ho : okT s = true
  · obtain ⟨h1, h2⟩ := okT_iff.1 ho
    have hc : tagV s = .agg ((s.map (fun c : UInt8 => c.toNat) ++ List.replicate (8 - s.length) 0 ++ [s.length]).map fun n : Nat => V.int .u8 n) := by
      unfold tagV tagL; rw [if_pos ho]
    have hfr : Free false (tagV s) := tag_free s
    rw [hc] at hfr ⊢
    refine Does.intro mixed comp51 ?_
    unfold c51
    rcases short_cases h1 h2 with ⟨a, rfl⟩ | ⟨a, b, rfl⟩ | ⟨a, b, c, rfl⟩ | ⟨a, b, c, d, rfl⟩ | ⟨a, b, c, d, e, rfl⟩ | ⟨a, b, c, d, e, f, rfl⟩ | ⟨a, b, c, d, e, f, g, rfl⟩ | ⟨a, b, c, d, e, f, g, h, rfl⟩
    all_goals
      simp -implicitDefEqProofs (disch := omega) only [u8V, List.take_nil, w1, w2, w3, w4, w5, w6, w7, w8, mwx, ne_eq, false_implies, implies_true, forall_eq_or_imp, MW.get, ev, evs, argFr, resK, packV, slHK, partsV, partsS, setR, Int.cast_ofNat_Int, Int.natCast_zero, Int.natCast_one, Nat.reduceLeDiff, reduceIte, Nat.reduceEqDiff, Nat.reduceBEq, reduceCtorEq, Nat.reduceAdd, Nat.reduceMul, Nat.reduceSub, Nat.reduceLT, Int.reduceToNat, Int.reduceLT, Int.reduceLE, Int.reduceEq, Int.reduceAdd, Int.reduceNeg, Int.reduceMul, Int.reduceSub]
      exact .free hfr
  · have ho' : okT s = false := by simpa using ho
    have hc : tagV s = .agg [.int .u8 0, .int .u8 0, .int .u8 0, .int .u8 0, .int .u8 0, .int .u8 0, .int .u8 0, .int .u8 0, .int .u8 0] := by
      unfold tagV tagL; rw [if_neg ho]; rfl
    have hfr : Free false (tagV s) := tag_free s
    rw [hc] at hfr ⊢
    refine Does.intro mixed comp51 ?_
    unfold c51
    by_cases h1 : (s.length : Int) < 1
    · simp -implicitDefEqProofs (disch := omega) only [h1, mwx, ne_eq, false_implies, implies_true, forall_eq_or_imp, MW.get, ev, evs, argFr, resK, packV, slHK, partsV, partsS, setR, Int.cast_ofNat_Int, Int.natCast_zero, Int.natCast_one, Nat.reduceLeDiff, reduceIte, Nat.reduceEqDiff, Nat.reduceBEq, reduceCtorEq, Nat.reduceAdd, Nat.reduceMul, Nat.reduceSub, Nat.reduceLT, Int.reduceToNat, Int.reduceLT, Int.reduceLE, Int.reduceEq, Int.reduceAdd, Int.reduceNeg, Int.reduceMul, Int.reduceSub]
      exact .free hfr
    · have h2 : (8 : Int) < (s.length : Int) := by
        apply Classical.byContradiction
        intro h2
        exact ho (okT_iff.2 ⟨by omega, by omega⟩)
      simp -implicitDefEqProofs (disch := omega) only [h1, h2, mwx, ne_eq, false_implies, implies_true, forall_eq_or_imp, MW.get, ev, evs, argFr, resK, packV, slHK, partsV, partsS, setR, Int.cast_ofNat_Int, Int.natCast_zero, Int.natCast_one, Nat.reduceLeDiff, reduceIte, Nat.reduceEqDiff, Nat.reduceBEq, reduceCtorEq, Nat.reduceAdd, Nat.reduceMul, Nat.reduceSub, Nat.reduceLT, Int.reduceToNat, Int.reduceLT, Int.reduceLE, Int.reduceEq, Int.reduceAdd, Int.reduceNeg, Int.reduceMul, Int.reduceSub]
      exact .free hfr

theorem lenK_map {H : List Blk} {b : Nat} {es : List (Nat × V × V)} {clk : Nat} {K : V → Prop} (h : MapAt H b es clk) : lenK 2 H (.map b) K = K (.int .i64 es.length) := by
  show (b < H.length ∧ _) = _
  rw [h.at_]
  simp [h.lt]

theorem own_not {sz : Nat} {H : List Blk} {v : V} {xs : List V} {b : Nat} (h : Own sz H v xs) (hb : ∀ xs o, getB H b ≠ .row sz xs o false) : ¬ hasB v b := by
  rcases h with ⟨rfl, _⟩ | ⟨c, cap, opn, rfl, h2, _⟩
  · exact fun h => h
  · rintro rfl
    exact hb _ _ h2

theorem own_frzE {α : Type} {e : El α} {im : Bool} {H : List Blk} {v : V} {l : List α} {sz : Nat} (h : Own sz H v (e.vs l)) (hs : sz = e.sz) (hm : e.im = true → im = true) (hl : l ≠ []) : Frz im H v (.vs (e.vs l)) := by
  rcases h with ⟨_, h2⟩ | ⟨b, cap, opn, rfl, h2, _⟩
  · exact absurd (El.vs_eq_nil.1 h2) hl
  · have := frz_rowE (e := e) (im := im) hs hm h2 (n := l.length) (len := l.length) (cap := cap) rfl rfl
    rw [El.vs_length]
    exact this

/-- What is told of tags: nothing, or a row. -/
def tagsR (l : List (List UInt8)) : V := if (tagsT l).1 = [] then .nils else .vs (strE.vs (tagsT l).1)
theorem tagsR_isE (l : List (List UInt8)) : IsE strE (tagsR l) (tagsT l).1 := by
  unfold tagsR
  split
  · rename_i h; exact .inl ⟨rfl, h⟩
  · exact .inr rfl

theorem tags_fn {v : V} {l : List (List UInt8)} (hv : IsE strE v l) (hl : l.length ≤ 1000000) : Does Try.prog G0 false 33 [v] (.tup [tagsR l, .int .i64 (tagsT l).2]) := by
  refine Does.intro mixed comp33 ?_
  unfold c33
  simp -implicitDefEqProofs (disch := omega) only [lenK_isE hv, mwx, ne_eq, false_implies, implies_true, forall_eq_or_imp, MW.get, ev, evs, argFr, resK, packV, slHK, partsV, partsS, setR, Int.cast_ofNat_Int, Int.natCast_zero, Int.natCast_one, Nat.reduceLeDiff, reduceIte, Nat.reduceEqDiff, Nat.reduceBEq, reduceCtorEq, Nat.reduceAdd, Nat.reduceMul, Nat.reduceSub, Nat.reduceLT, Int.reduceToNat, Int.reduceLT, Int.reduceLE, Int.reduceEq, Int.reduceAdd, Int.reduceNeg, Int.reduceMul, Int.reduceSub]
  have hbad : (l.all okT = true ∧ (ddL l).length ≤ 3) → False → tagsT l = tagsT l := fun _ _ => rfl
  refine xl_loop (fun m st => ∃ (i : Nat) (ds : List (List UInt8)), m + i = l.length ∧ ds = ddL (l.take i) ∧ (∀ j, j < i → okT (l.getD j []) = true) ∧ MapAt st.H 0 (ents 0 ds) ds.length ∧ get st.fr 4 = .map 0 ∧ get st.fr 12 = v ∧ get st.fr 13 = .int .i64 l.length ∧ get st.fr 14 = .int .i64 i) l.length
    ⟨0, [], by omega, rfl, by omega, MapAt.new [], rfl, rfl, rfl, rfl⟩ ?_
  rintro J hJ m fr H ⟨i, ds, h1, hds, hok, hM, h2, h3, h4, h5⟩
  have hM : MapAt H 0 (ents 0 ds) ds.length := hM
  simp -implicitDefEqProofs (disch := omega) only [h2, h3, h4, h5, mwx, ne_eq, false_implies, implies_true, forall_eq_or_imp, MW.get, ev, evs, argFr, resK, packV, slHK, partsV, partsS, setR, Int.cast_ofNat_Int, Int.natCast_zero, Int.natCast_one, Nat.reduceLeDiff, reduceIte, Nat.reduceEqDiff, Nat.reduceBEq, reduceCtorEq, Nat.reduceAdd, Nat.reduceMul, Nat.reduceSub, Nat.reduceLT, Int.reduceToNat, Int.reduceLT, Int.reduceLE, Int.reduceEq, Int.reduceAdd, Int.reduceNeg, Int.reduceMul, Int.reduceSub]
  refine xc_dec (fun h7 => ?_) fun h7 => ?_
  · have hi : i < l.length := by omega
    have hi0 : (0 : Int) ≤ (i : Int) := by omega
    have hi1 : (i : Int).toNat < l.length := by omega
    have hdt := ddL_take hi
    have hnd := ddL_nodup (l.take i)
    rw [← hds] at hdt hnd
    have hokd : ∀ d ∈ ds, okT d = true := fun d hd => by
      rw [hds, ddL_mem] at hd
      obtain ⟨j, hj, rfl⟩ := List.getElem_of_mem hd
      simp only [List.length_take] at hj
      have := hok j (by omega)
      rw [List.getD_eq_getElem?_getD, List.getElem?_eq_getElem (by omega)] at this
      simpa using this
    simp -implicitDefEqProofs (disch := omega) only [h2, h3, h4, h5, iaK_str hv hi0 hi1, mwx, ne_eq, false_implies, implies_true, forall_eq_or_imp, MW.get, ev, evs, argFr, resK, packV, slHK, partsV, partsS, setR, Int.cast_ofNat_Int, Int.natCast_zero, Int.natCast_one, Nat.reduceLeDiff, reduceIte, Nat.reduceEqDiff, Nat.reduceBEq, reduceCtorEq, Nat.reduceAdd, Nat.reduceMul, Nat.reduceSub, Nat.reduceLT, Int.reduceToNat, Int.reduceLT, Int.reduceLE, Int.reduceEq, Int.reduceAdd, Int.reduceNeg, Int.reduceMul, Int.reduceSub]
    refine Does.call (of_fn (l.getD i [])) (fr1 (.str _)) ?_
    generalize hs : l.getD i [] = s at *
    obtain ⟨T, hT⟩ : ∃ T, T = (tagL s).map fun n : Nat => V.int .u8 n := ⟨_, rfl⟩
    have htv : tagV s = .agg T := by rw [hT]; rfl
    have hTl : T.length = 9 := by rw [hT, List.length_map, tagL_length]
    have hone : (∀ c ∈ T, c.one = true) = True := eq_true fun c hc => by
      rw [hT] at hc
      obtain ⟨n, _, rfl⟩ := List.mem_map.1 hc
      rfl
    have heq := eqs_none (s := s)
    rw [← hT] at heq
    have hTt : T.take 9 = T := List.take_of_length_le (by omega)
    rw [htv]
    simp -implicitDefEqProofs (disch := omega) only [h2, h3, h4, h5, hTl, hone, heq, hTt, mwx, ne_eq, false_implies, implies_true, forall_eq_or_imp, MW.get, ev, evs, argFr, resK, packV, slHK, partsV, partsS, setR, Int.cast_ofNat_Int, Int.natCast_zero, Int.natCast_one, Nat.reduceLeDiff, reduceIte, Nat.reduceEqDiff, Nat.reduceBEq, reduceCtorEq, Nat.reduceAdd, Nat.reduceMul, Nat.reduceSub, Nat.reduceLT, Int.reduceToNat, Int.reduceLT, Int.reduceLE, Int.reduceEq, Int.reduceAdd, Int.reduceNeg, Int.reduceMul, Int.reduceSub]
    rcases hos : okT s with _ | _
    · have e1 : tagsT l = ([], 90) := by
        unfold tagsT
        rw [if_neg]
        rintro ⟨ha, _⟩
        have hm : s ∈ l := by rw [← hs, List.getD_eq_getElem?_getD, List.getElem?_eq_getElem hi]; exact List.getElem_mem hi
        rw [List.all_eq_true.1 ha s hm] at hos
        cases hos
      have e2 : tagsR l = .nils := by unfold tagsR; rw [e1]; rfl
      rw [e1, e2]
      simp -implicitDefEqProofs (disch := omega) only [mwx, ne_eq, false_implies, implies_true, forall_eq_or_imp, MW.get, ev, evs, argFr, resK, packV, slHK, partsV, partsS, setR, Int.cast_ofNat_Int, Int.natCast_zero, Int.natCast_one, Nat.reduceLeDiff, reduceIte, Nat.reduceEqDiff, Nat.reduceBEq, reduceCtorEq, Nat.reduceAdd, Nat.reduceMul, Nat.reduceSub, Nat.reduceLT, Int.reduceToNat, Int.reduceLT, Int.reduceLE, Int.reduceEq, Int.reduceAdd, Int.reduceNeg, Int.reduceMul, Int.reduceSub]
      exact frz_tup2 (.free .nils) (frz_int rfl)
    · simp -implicitDefEqProofs (disch := omega) only [h2, hTl, hone, hTt, mwx, ne_eq, false_implies, implies_true, forall_eq_or_imp, MW.get, ev, evs, argFr, resK, packV, slHK, partsV, partsS, setR, Int.cast_ofNat_Int, Int.natCast_zero, Int.natCast_one, Nat.reduceLeDiff, reduceIte, Nat.reduceEqDiff, Nat.reduceBEq, reduceCtorEq, Nat.reduceAdd, Nat.reduceMul, Nat.reduceSub, Nat.reduceLT, Int.reduceToNat, Int.reduceLT, Int.reduceLE, Int.reduceEq, Int.reduceAdd, Int.reduceNeg, Int.reduceMul, Int.reduceSub]
      have hkk := keq_tag hos hos
      obtain ⟨hf1, hf2⟩ := findV_ents hos ds 0 0 hokd hnd
      rw [htv] at hkk hf1 hf2
      have hM2 := hM.app [.row 9 [V.agg T] false false]
      have hstep : ∀ ds', ddL (l.take (i + 1)) = ds' → ∀ j, j < i + 1 → okT (l.getD j []) = true := fun ds' _ j hj => by
        by_cases hji : j = i
        · subst hji; rw [hs]; exact hos
        · exact hok j (by omega)
      by_cases hmem : s ∈ ds
      · obtain ⟨j, g1, g2, g3⟩ := hf1 hmem
        rw [Nat.zero_add] at g3
        have hset : (ents 0 ds).set j (((ents 0 ds).getD j e0V).1, ((ents 0 ds).getD j e0V).2.1, .str s) = ents 0 ds := by
          have hg := ents_at 0 ds j g1
          rw [g2] at hg
          refine List.ext_getElem (by simp) fun q q1 q2 => ?_
          rw [List.getElem_set]
          split
          · rename_i e; subst e
            rw [hg]
            have : (ents 0 ds)[j] = (ents 0 ds).getD j e0V := by rw [List.getD_eq_getElem?_getD, List.getElem?_eq_getElem q2]; rfl
            rw [this, hg]
          · rfl
        refine mset_hit hM2 (by simpa using hkk) g3 fun hM3 => ?_
        rw [hset] at hM3 ⊢
        simp -implicitDefEqProofs (disch := omega) only [h2, h3, h4, h5, mwx, ne_eq, false_implies, implies_true, forall_eq_or_imp, MW.get, ev, evs, argFr, resK, packV, slHK, partsV, partsS, setR, Int.cast_ofNat_Int, Int.natCast_zero, Int.natCast_one, Nat.reduceLeDiff, reduceIte, Nat.reduceEqDiff, Nat.reduceBEq, reduceCtorEq, Nat.reduceAdd, Nat.reduceMul, Nat.reduceSub, Nat.reduceLT, Int.reduceToNat, Int.reduceLT, Int.reduceLE, Int.reduceEq, Int.reduceAdd, Int.reduceNeg, Int.reduceMul, Int.reduceSub]
        have e1 : ddA ds s = ds := by unfold ddA; rw [if_pos hmem]
        exact ⟨m - 1, by omega, hJ _ _ ⟨i + 1, ds, by omega, by rw [hdt, e1], hstep _ rfl, hM3, h2, h3, h4, rfl⟩⟩
      · refine mset_new hM2 (by simpa using hkk) (hf2 hmem) fun hM3 => ?_
        simp -implicitDefEqProofs (disch := omega) only [h2, h3, h4, h5, mwx, ne_eq, false_implies, implies_true, forall_eq_or_imp, MW.get, ev, evs, argFr, resK, packV, slHK, partsV, partsS, setR, Int.cast_ofNat_Int, Int.natCast_zero, Int.natCast_one, Nat.reduceLeDiff, reduceIte, Nat.reduceEqDiff, Nat.reduceBEq, reduceCtorEq, Nat.reduceAdd, Nat.reduceMul, Nat.reduceSub, Nat.reduceLT, Int.reduceToNat, Int.reduceLT, Int.reduceLE, Int.reduceEq, Int.reduceAdd, Int.reduceNeg, Int.reduceMul, Int.reduceSub]
        have e1 : ddA ds s = ds ++ [s] := by unfold ddA; rw [if_neg hmem]
        refine ⟨m - 1, by omega, hJ _ _ ⟨i + 1, ds ++ [s], by omega, by rw [hdt, e1], hstep _ rfl, ?_, h2, h3, h4, rfl⟩⟩
        rw [ents_append, htv, List.length_append, Nat.zero_add]
        exact hM3
  · have ht : l.take i = l := List.take_of_length_le (by omega)
    rw [ht] at hds
    have hall : l.all okT = true := by
      rw [List.all_eq_true]
      intro s hs
      obtain ⟨j, hj, rfl⟩ := List.getElem_of_mem hs
      have := hok j (by omega)
      rw [List.getD_eq_getElem?_getD, List.getElem?_eq_getElem hj] at this
      simpa using this
    simp -implicitDefEqProofs (disch := omega) only [h2, h3, h4, h5, lenK_map hM, ents_length, mwx, ne_eq, false_implies, implies_true, forall_eq_or_imp, MW.get, ev, evs, argFr, resK, packV, slHK, partsV, partsS, setR, Int.cast_ofNat_Int, Int.natCast_zero, Int.natCast_one, Nat.reduceLeDiff, reduceIte, Nat.reduceEqDiff, Nat.reduceBEq, reduceCtorEq, Nat.reduceAdd, Nat.reduceMul, Nat.reduceSub, Nat.reduceLT, Int.reduceToNat, Int.reduceLT, Int.reduceLE, Int.reduceEq, Int.reduceAdd, Int.reduceNeg, Int.reduceMul, Int.reduceSub]
    refine xc_dec (fun h8 => ?_) fun h8 => ?_
    · have e1 : tagsT l = ([], 90) := by
        unfold tagsT
        rw [if_neg]
        rintro ⟨_, ha⟩
        rw [← hds] at ha
        omega
      have e2 : tagsR l = .nils := by unfold tagsR; rw [e1]; rfl
      rw [e1, e2]
      simp -implicitDefEqProofs (disch := omega) only [mwx, ne_eq, false_implies, implies_true, forall_eq_or_imp, MW.get, ev, evs, argFr, resK, packV, slHK, partsV, partsS, setR, Int.cast_ofNat_Int, Int.natCast_zero, Int.natCast_one, Nat.reduceLeDiff, reduceIte, Nat.reduceEqDiff, Nat.reduceBEq, reduceCtorEq, Nat.reduceAdd, Nat.reduceMul, Nat.reduceSub, Nat.reduceLT, Int.reduceToNat, Int.reduceLT, Int.reduceLE, Int.reduceEq, Int.reduceAdd, Int.reduceNeg, Int.reduceMul, Int.reduceSub]
      exact frz_tup2 (.free .nils) (frz_int rfl)
    · have e1 : tagsT l = (srt ds, 0) := by
        unfold tagsT
        rw [if_pos ⟨hall, by rw [← hds]; omega⟩, ← hds]
      simp -implicitDefEqProofs (disch := omega) only [h2, mwx, ne_eq, false_implies, implies_true, forall_eq_or_imp, MW.get, ev, evs, argFr, resK, packV, slHK, partsV, partsS, setR, Int.cast_ofNat_Int, Int.natCast_zero, Int.natCast_one, Nat.reduceLeDiff, reduceIte, Nat.reduceEqDiff, Nat.reduceBEq, reduceCtorEq, Nat.reduceAdd, Nat.reduceMul, Nat.reduceSub, Nat.reduceLT, Int.reduceToNat, Int.reduceLT, Int.reduceLE, Int.reduceEq, Int.reduceAdd, Int.reduceNeg, Int.reduceMul, Int.reduceSub]
      refine rng_map hM ?_
      simp -implicitDefEqProofs (disch := omega) only [h2, mwx, ne_eq, false_implies, implies_true, forall_eq_or_imp, MW.get, ev, evs, argFr, resK, packV, slHK, partsV, partsS, setR, Int.cast_ofNat_Int, Int.natCast_zero, Int.natCast_one, Nat.reduceLeDiff, reduceIte, Nat.reduceEqDiff, Nat.reduceBEq, reduceCtorEq, Nat.reduceAdd, Nat.reduceMul, Nat.reduceSub, Nat.reduceLT, Int.reduceToNat, Int.reduceLT, Int.reduceLE, Int.reduceEq, Int.reduceAdd, Int.reduceNeg, Int.reduceMul, Int.reduceSub]
      refine xl_loop (fun m st => ∃ (u : V) (done : List (Nat × V × V)), m + done.length = ds.length ∧ IterAt st.H H.length 0 (ents 0 ds) done ds.length ∧ get st.fr 31 = .ptr H.length 0 0 0 ∧ get st.fr 8 = u ∧ Own 1 st.H u (strE.vs (done.map valS)) ∧ (done = [] → u = .nils)) ds.length
        ⟨.nils, [], by simp, IterAt.new hM, rfl, rfl, Own.nil _ _, fun _ => rfl⟩ ?_
      rintro J hJ m fr H2 ⟨u, done, h1, hI, h2, h3, hO, hu⟩
      have hI : IterAt H2 H.length 0 (ents 0 ds) done ds.length := hI
      have hO : Own 1 H2 u (strE.vs (done.map valS)) := hO
      have hle := hI.le
      rw [ents_length] at hle
      simp -implicitDefEqProofs (disch := omega) only [h2, mwx, ne_eq, false_implies, implies_true, forall_eq_or_imp, MW.get, ev, evs, argFr, resK, packV, slHK, partsV, partsS, setR, Int.cast_ofNat_Int, Int.natCast_zero, Int.natCast_one, Nat.reduceLeDiff, reduceIte, Nat.reduceEqDiff, Nat.reduceBEq, reduceCtorEq, Nat.reduceAdd, Nat.reduceMul, Nat.reduceSub, Nat.reduceLT, Int.reduceToNat, Int.reduceLT, Int.reduceLE, Int.reduceEq, Int.reduceAdd, Int.reduceNeg, Int.reduceMul, Int.reduceSub]
      refine nxt_map hI (fun hp => ?_) fun e he hne H3 hI3 hlen hsame => ?_
      · simp -implicitDefEqProofs (disch := omega) only [h3, mwx, ne_eq, false_implies, implies_true, forall_eq_or_imp, MW.get, ev, evs, argFr, resK, packV, slHK, partsV, partsS, setR, Int.cast_ofNat_Int, Int.natCast_zero, Int.natCast_one, Nat.reduceLeDiff, reduceIte, Nat.reduceEqDiff, Nat.reduceBEq, reduceCtorEq, Nat.reduceAdd, Nat.reduceMul, Nat.reduceSub, Nat.reduceLT, Int.reduceToNat, Int.reduceLT, Int.reduceLE, Int.reduceEq, Int.reduceAdd, Int.reduceNeg, Int.reduceMul, Int.reduceSub]
        refine hO.sort sorts sorts0 (by simp; omega) fun H4 hO4 _ => ?_
        have hpd : (done.map valS).Perm ds := by
          have := hp.map valS
          rwa [ents_val] at this
        rw [srt_congr' hpd] at hO4
        simp -implicitDefEqProofs (disch := omega) only [h3, mwx, ne_eq, false_implies, implies_true, forall_eq_or_imp, MW.get, ev, evs, argFr, resK, packV, slHK, partsV, partsS, setR, Int.cast_ofNat_Int, Int.natCast_zero, Int.natCast_one, Nat.reduceLeDiff, reduceIte, Nat.reduceEqDiff, Nat.reduceBEq, reduceCtorEq, Nat.reduceAdd, Nat.reduceMul, Nat.reduceSub, Nat.reduceLT, Int.reduceToNat, Int.reduceLT, Int.reduceLE, Int.reduceEq, Int.reduceAdd, Int.reduceNeg, Int.reduceMul, Int.reduceSub]
        rw [e1]
        refine frz_tup2 ?_ (frz_int rfl)
        unfold tagsR
        rw [e1]
        by_cases hd0 : ds = []
        · have hdn : done = [] := by
            have := hp.length_eq
            rw [ents_length, hd0] at this
            exact List.length_eq_zero_iff.1 this
          rw [hu hdn, if_pos (by rw [hd0]; exact List.mergeSort_nil)]
          exact .free .nils
        · have hsn : srt ds ≠ [] := fun e => hd0 (by have := srt_length ds; rw [e] at this; exact List.length_eq_zero_iff.1 this.symm)
          rw [if_neg hsn]
          exact own_frzE (e := strE) hO4 rfl (by decide) hsn
      · have hstr := ents_str 0 ds e he
        have hq : getB H2 H.length = .iter 0 ds.length (done.map (·.1)) ds.length := hI.at_
        have hO3 : Own 1 H3 u (strE.vs (done.map valS)) := by
          refine hO.but (v := .hs H.length 0 0 0 0 none 1) ⟨by omega, fun c _ hc => hsame c fun e => hc e.symm⟩ fun b hb => ?_
          obtain rfl : H.length = b := hb
          exact own_not hO fun xs o e => by rw [hq] at e; cases e
        have hlt3 := hI3.le
        rw [List.length_append, ents_length] at hlt3
        simp only [List.length_cons, List.length_nil] at hlt3
        simp -implicitDefEqProofs (disch := omega) only [h2, h3, mwx, ne_eq, false_implies, implies_true, forall_eq_or_imp, MW.get, ev, evs, argFr, resK, packV, slHK, partsV, partsS, setR, Int.cast_ofNat_Int, Int.natCast_zero, Int.natCast_one, Nat.reduceLeDiff, reduceIte, Nat.reduceEqDiff, Nat.reduceBEq, reduceCtorEq, Nat.reduceAdd, Nat.reduceMul, Nat.reduceSub, Nat.reduceLT, Int.reduceToNat, Int.reduceLT, Int.reduceLE, Int.reduceEq, Int.reduceAdd, Int.reduceNeg, Int.reduceMul, Int.reduceSub]
        refine ent_map hI3 ?_
        have hgb : ∀ k : Blk, getB (H3 ++ [k]) H3.length = k := fun k => getB_new H3 k
        simp -implicitDefEqProofs (disch := omega) only [h2, h3, hstr, hgb, mwx, ne_eq, false_implies, implies_true, forall_eq_or_imp, MW.get, ev, evs, argFr, resK, packV, slHK, partsV, partsS, setR, Int.cast_ofNat_Int, Int.natCast_zero, Int.natCast_one, Nat.reduceLeDiff, reduceIte, Nat.reduceEqDiff, Nat.reduceBEq, reduceCtorEq, Nat.reduceAdd, Nat.reduceMul, Nat.reduceSub, Nat.reduceLT, Int.reduceToNat, Int.reduceLT, Int.reduceLE, Int.reduceEq, Int.reduceAdd, Int.reduceNeg, Int.reduceMul, Int.reduceSub]
        refine (hO3.grow _).appS (El.vs_goods (e := strE) _) ?_ ?_ fun v' H5 hO5 hK hfr => ?_
        · simp only [goods_cons, goods_nil, good_str, and_self]
        · refine roomy_of ?_ (by omega)
          rw [El.vs_length]
          simp
          omega
        have hnb : ∀ b, b = 0 ∨ b = H.length → ¬ hasB u b := fun b hb => by
          refine own_not hO3 fun xs o e => ?_
          rcases hb with rfl | rfl
          · rw [hI3.m.at_] at e; cases e
          · rw [hI3.at_] at e; cases e
        have hI4 := hI3.app [.row 1 [.str (valS e)] false false]
        have hI5 : IterAt H5 H.length 0 (ents 0 ds) (done ++ [e]) ds.length := hI4.keep hK.1 (hK.2 _ hI4.m.lt (hnb _ (.inl rfl))) (hK.2 _ (iter_lt hI4.at_) (hnb _ (.inr rfl)))
        simp -implicitDefEqProofs (disch := omega) only [h2, h3, mwx, ne_eq, false_implies, implies_true, forall_eq_or_imp, MW.get, ev, evs, argFr, resK, packV, slHK, partsV, partsS, setR, Int.cast_ofNat_Int, Int.natCast_zero, Int.natCast_one, Nat.reduceLeDiff, reduceIte, Nat.reduceEqDiff, Nat.reduceBEq, reduceCtorEq, Nat.reduceAdd, Nat.reduceMul, Nat.reduceSub, Nat.reduceLT, Int.reduceToNat, Int.reduceLT, Int.reduceLE, Int.reduceEq, Int.reduceAdd, Int.reduceNeg, Int.reduceMul, Int.reduceSub]
        refine ⟨m - 1, by omega, hJ _ _ ⟨v', done ++ [e], by rw [List.length_append]; simp only [List.length_cons, List.length_nil]; omega, hI5, h2, rfl, ?_, fun h => absurd h (by simp)⟩⟩
        rw [List.map_append]
        have := hO5
        rw [show [V.str (valS e)] = strE.vs [valS e] from rfl, El.vs_append] at this
        exact this

end Go.Proofs.Ytoopcfgmffpogaa

/- Two lists of texts compared by the document's own function: alike ones. -/
namespace Go.Proofs.Ytoopcfgmffpogaa
open Go Go.MW
set_option linter.unusedSimpArgs false
set_option linter.unusedVariables false
set_option maxRecDepth 8000

theorem same7_fn {v v' : V} {t : List (List UInt8)} (hv : IsE strE v t) (hv' : IsE strE v' t) (hl : t.length ≤ 1000000) : Does Try.prog G0 false 37 [v, v'] (.bool true) := by
  refine Does.intro mixed comp37 ?_
  unfold c37
  simp -implicitDefEqProofs (disch := omega) only [lenK_isE hv, lenK_isE hv', mwx, ne_eq, false_implies, implies_true, forall_eq_or_imp, MW.get, ev, evs, argFr, resK, packV, slHK, partsV, partsS, setR, Int.cast_ofNat_Int, Int.natCast_zero, Int.natCast_one, Nat.reduceLeDiff, reduceIte, Nat.reduceEqDiff, Nat.reduceBEq, reduceCtorEq, Nat.reduceAdd, Nat.reduceMul, Nat.reduceSub, Nat.reduceLT, Int.reduceToNat, Int.reduceLT, Int.reduceLE, Int.reduceEq, Int.reduceAdd, Int.reduceNeg, Int.reduceMul, Int.reduceSub]
  refine xl_loop (fun k st => ∃ i : Nat, k + i = t.length ∧ get st.fr 0 = v ∧ get st.fr 1 = v' ∧ get st.fr 5 = .int .i64 i) t.length ⟨0, by omega, rfl, rfl, rfl⟩ ?_
  rintro J hJ k fr H ⟨i, h1, h2, h3, h4⟩
  simp -implicitDefEqProofs (disch := omega) only [h2, h3, h4, lenK_isE hv, mwx, ne_eq, false_implies, implies_true, forall_eq_or_imp, MW.get, ev, evs, argFr, resK, packV, slHK, partsV, partsS, setR, Int.cast_ofNat_Int, Int.natCast_zero, Int.natCast_one, Nat.reduceLeDiff, reduceIte, Nat.reduceEqDiff, Nat.reduceBEq, reduceCtorEq, Nat.reduceAdd, Nat.reduceMul, Nat.reduceSub, Nat.reduceLT, Int.reduceToNat, Int.reduceLT, Int.reduceLE, Int.reduceEq, Int.reduceAdd, Int.reduceNeg, Int.reduceMul, Int.reduceSub]
  refine xc_dec (fun h6 => ?_) fun h6 => ?_
  · have hi0 : (0 : Int) ≤ (i : Int) := by omega
    have hi1 : (i : Int).toNat < t.length := by omega
    have hb : (t.getD i [] != t.getD i []) = false := by simp
    simp -implicitDefEqProofs (disch := omega) only [h2, h3, h4, iaK_str hv hi0 hi1, iaK_str hv' hi0 hi1, hb, mwx, ne_eq, false_implies, implies_true, forall_eq_or_imp, MW.get, ev, evs, argFr, resK, packV, slHK, partsV, partsS, setR, Int.cast_ofNat_Int, Int.natCast_zero, Int.natCast_one, Nat.reduceLeDiff, reduceIte, Nat.reduceEqDiff, Nat.reduceBEq, reduceCtorEq, Nat.reduceAdd, Nat.reduceMul, Nat.reduceSub, Nat.reduceLT, Int.reduceToNat, Int.reduceLT, Int.reduceLE, Int.reduceEq, Int.reduceAdd, Int.reduceNeg, Int.reduceMul, Int.reduceSub]
    exact ⟨k - 1, by omega, hJ _ _ ⟨i + 1, by omega, h2, h3, rfl⟩⟩
  · simp -implicitDefEqProofs (disch := omega) only [mwx, ne_eq, false_implies, implies_true, forall_eq_or_imp, MW.get, ev, evs, argFr, resK, packV, slHK, partsV, partsS, setR, Int.cast_ofNat_Int, Int.natCast_zero, Int.natCast_one, Nat.reduceLeDiff, reduceIte, Nat.reduceEqDiff, Nat.reduceBEq, reduceCtorEq, Nat.reduceAdd, Nat.reduceMul, Nat.reduceSub, Nat.reduceLT, Int.reduceToNat, Int.reduceLT, Int.reduceLE, Int.reduceEq, Int.reduceAdd, Int.reduceNeg, Int.reduceMul, Int.reduceSub]
    exact frz_bool rfl

end Go.Proofs.Ytoopcfgmffpogaa

