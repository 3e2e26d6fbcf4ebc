/- The functions as code of the abstract machine (printed by gen.py), part 0. -/
import Derived.Test.YtlilfiekkaolkaaAmX
set_option linter.unusedVariables false
namespace Go.Proofs.Ytlilfiekkaolkaa.Am
open Go
def r3_1 : List MOper := [o1 2 (.box (.t 0)),
  o1 4 (.mov (.c (.bool false)))]
def r3_2 : List MOper := [o1 13 (.ld true 2 (.t 2)),
  o1 14 (.mov (.t 1)),
  o1 15 (.call 28 [(.t 13), (.t 14)]),
  o1 16 (.bin .gtr (.t 15) (.i 0)),
  o1 17 (.mov (.t 16)),
  o2 18 17 false (.ld true 2 (.t 2)),
  o2 19 17 false (.mov (.t 1)),
  o2 20 17 false (.call 29 [(.t 18), (.t 19)]),
  o2 21 17 false (.not (.t 20)),
  o1 22 (.pick (.t 17) (.c (.bool true)) (.t 21))]
def r3_3 : List MOper := [o1 23 (.call 30 []),
  o1 4 (.mov (.t 23))]
def r3_4 : List MOper := [o1 24 (.mov (.t 1)),
  o1 25 (.len (.t 24)),
  o1 26 (.mksl 1 (.int .i64 0) (.t 25)),
  o1 5 (.mov (.t 26))]
def r3_5 : List MOper := [o1 27 (.mov (.t 1)),
  o1 28 (.len (.t 27)),
  o1 29 (.mov (.i 0))]
def r3_6 : List MOper := [o1 30 (.bin .lss (.t 29) (.t 28))]
def r3_7 : List MOper := [o1 31 (.mov (.t 29)),
  o1 32 (.ixs 1 (.t 27) (.t 29)),
  o1 33 (.ld false 1 (.t 32)),
  o1 6 (.mov (.t 31)),
  o1 7 (.mov (.t 33))]
def r3_8 : List MOper := [o1 34 (.mov (.t 5)),
  o1 35 (.mov (.t 6)),
  o1 36 (.mov (.t 7)),
  o1 37 (.bin .add (.t 36) (.i 2)),
  o1 38 (.ixs 1 (.t 34) (.t 35)),
  n1 (.st 1 (.t 38) (.t 37))]
def r3_9 : List MOper := [o1 39 (.mov (.t 5)),
  o1 40 (.mov (.t 6)),
  o1 41 (.ixs 1 (.t 39) (.t 40)),
  o1 42 (.ld false 1 (.t 41)),
  o1 43 (.bin .geq (.t 42) (.i 6))]
def r3_10 : List MOper := [o1 44 (.call 30 []),
  o1 4 (.mov (.t 44))]
def r3_11 : List MOper := [o1 45 (.bin .add (.t 29) (.i 1)),
  o1 29 (.mov (.t 45))]
def b3_1 : MCode := .seq (.reg false r3_6 [1, 2, 5, 27, 28, 29, 30])
 (.seq (.cond 30 (.skip) (.exit 0))
 (.seq (.block 1 (.seq (.reg false r3_7 [1, 2, 5, 6, 7, 27, 28, 29])
 (.seq (.reg false r3_8 [1, 2, 5, 6, 27, 28, 29])
 (.seq (.reg false r3_9 [1, 2, 5, 27, 28, 29, 43])
 (.cond 43 (.seq (.reg false r3_10 [4])
 (.ret)) (.skip))))))
 (.reg false r3_11 [1, 2, 5, 27, 28, 29])))
def r3_12 : List MOper := [o1 47 (.ld true 2 (.t 2)),
  o1 48 (.mov (.t 1)),
  o1 49 (.call 31 [(.t 47), (.t 48)]),
  o1 46 (.mov (.t 49)),
  o1 50 (.ext (.t 46) 0),
  o1 51 (.ext (.t 46) 1),
  o1 8 (.mov (.t 50)),
  o1 9 (.mov (.t 51))]
def r3_13 : List MOper := [o1 53 (.ld true 2 (.t 2)),
  o1 54 (.mov (.t 5)),
  o1 55 (.call 31 [(.t 53), (.t 54)]),
  o1 52 (.mov (.t 55)),
  o1 56 (.ext (.t 52) 0),
  o1 57 (.ext (.t 52) 1),
  o1 10 (.mov (.t 56)),
  o1 11 (.mov (.t 57))]
def r3_14 : List MOper := [o1 58 (.mov (.t 8)),
  o1 59 (.len (.t 58)),
  o1 60 (.mov (.t 1)),
  o1 61 (.len (.t 60)),
  o1 62 (.bin .neq (.t 59) (.t 61)),
  o1 63 (.mov (.t 62)),
  o2 64 63 false (.mov (.t 10)),
  o2 65 63 false (.len (.t 64)),
  o2 66 63 false (.mov (.t 1)),
  o2 67 63 false (.len (.t 66)),
  o2 68 63 false (.bin .neq (.t 65) (.t 67)),
  o1 69 (.pick (.t 63) (.c (.bool true)) (.t 68)),
  o1 70 (.mov (.t 69)),
  o2 71 70 false (.mov (.t 9)),
  o2 72 70 false (.mov (.t 11)),
  o2 73 70 false (.call 32 [(.t 71), (.t 72)]),
  o2 74 70 false (.not (.t 73)),
  o1 75 (.pick (.t 70) (.c (.bool true)) (.t 74))]
def r3_15 : List MOper := [o1 4 (.mov (.c (.bool false)))]
def r3_16 : List MOper := [o1 76 (.mov (.t 8)),
  o1 77 (.len (.t 76)),
  o1 78 (.mov (.i 0))]
def r3_17 : List MOper := [o1 79 (.bin .lss (.t 78) (.t 77))]
def r3_18 : List MOper := [o1 80 (.mov (.t 78)),
  o1 12 (.mov (.t 80))]
def q3_19 : List MOper := [o1 81 (.mov (.t 8)),
  o1 82 (.mov (.t 12)),
  o1 83 (.ixs 1 (.t 81) (.t 82)),
  ox (some 84) none .R false (.ld false 1 (.t 83)),
  o1 85 (.len (.t 84)),
  o1 86 (.bin .neq (.t 85) (.i 3)),
  o1 87 (.mov (.t 86)),
  o2 88 87 false (.mov (.t 10)),
  o2 89 87 false (.mov (.t 12)),
  o2 90 87 false (.ixs 1 (.t 88) (.t 89)),
  ox (some 91) (some (87, false)) .R false (.ld false 1 (.t 90)),
  o2 92 87 false (.len (.t 91)),
  o2 93 87 false (.bin .neq (.t 92) (.i 3)),
  o1 94 (.pick (.t 87) (.c (.bool true)) (.t 93)),
  o1 95 (.mov (.t 94)),
  o2 96 95 false (.mov (.t 10)),
  o2 97 95 false (.mov (.t 12)),
  o2 98 95 false (.ixs 1 (.t 96) (.t 97)),
  ox (some 99) (some (95, false)) .R false (.ld false 1 (.t 98)),
  o2 100 95 false (.ixs 1 (.t 99) (.i 0)),
  ox (some 101) (some (95, false)) .R false (.ld false 1 (.t 100)),
  o2 102 95 false (.bin .neq (.t 101) (.i 0)),
  o1 103 (.pick (.t 95) (.c (.bool true)) (.t 102)),
  o1 104 (.mov (.t 103)),
  o2 105 104 false (.mov (.t 8)),
  o2 106 104 false (.mov (.t 12)),
  o2 107 104 false (.ixs 1 (.t 105) (.t 106)),
  ox (some 108) (some (104, false)) .R false (.ld false 1 (.t 107)),
  o2 109 104 false (.slc 1 (.t 108) none (some (.i 2))),
  o2 110 104 false (.mov (.t 10)),
  o2 111 104 false (.mov (.t 12)),
  o2 112 104 false (.ixs 1 (.t 110) (.t 111)),
  ox (some 113) (some (104, false)) .R false (.ld false 1 (.t 112)),
  o2 114 104 false (.slc 1 (.t 113) (some (.i 1)) none),
  ox (some 115) (some (104, false)) .R false (.call 33 [(.t 109), (.t 114)]),
  o2 116 104 false (.not (.t 115)),
  o1 117 (.pick (.t 104) (.c (.bool true)) (.t 116))]
def r3_19 : List MOper := q3_19
def r3_20 : List MOper := [o1 4 (.mov (.c (.bool false)))]
def r3_21 : List MOper := [o1 118 (.bin .add (.t 78) (.i 1)),
  o1 78 (.mov (.t 118))]
def b3_2 : MCode := .seq (.reg false r3_17 [8, 10, 77, 78, 79])
 (.seq (.cond 79 (.skip) (.exit 2))
 (.seq (.block 3 (.seq (.reg false r3_18 [8, 10, 12, 77, 78])
 (.seq (.reg true r3_19 [8, 10, 77, 78, 117])
 (.cond 117 (.seq (.reg false r3_20 [4])
 (.ret)) (.skip)))))
 (.reg false r3_21 [8, 10, 77, 78])))
def r3_22 : List MOper := [o1 119 (.call 30 []),
  o1 4 (.mov (.t 119))]
def c3 : MCode := .seq (.reg false r3_1 [1, 2])
 (.seq (.seq (.reg false r3_2 [1, 2, 22])
 (.cond 22 (.seq (.reg false r3_3 [4])
 (.ret)) (.skip)))
 (.seq (.reg false r3_4 [1, 2, 5])
 (.seq (.seq (.reg false r3_5 [1, 2, 5, 27, 28, 29])
 (.block 0 (.loop [1, 2, 5, 27, 28, 29] b3_1)))
 (.seq (.reg false r3_12 [1, 2, 5, 8, 9])
 (.seq (.reg false r3_13 [1, 8, 9, 10, 11])
 (.seq (.seq (.reg false r3_14 [8, 10, 75])
 (.cond 75 (.seq (.reg false r3_15 [4])
 (.ret)) (.skip)))
 (.seq (.seq (.reg false r3_16 [8, 10, 77, 78])
 (.block 2 (.loop [8, 10, 77, 78] b3_2)))
 (.seq (.reg false r3_22 [4])
 (.ret)))))))))
def m3 : MFunc := ⟨3, [.tmp 4], c3⟩
def r4_1 : List MOper := [o1 3 (.box (.t 0)),
  o1 6 (.mov (.c (.bool false)))]
def r4_2 : List MOper := [o1 9 (.ld true 2 (.t 3)),
  o1 10 (.mov (.t 2)),
  o1 11 (.call 34 [(.t 9), (.t 10)]),
  o1 12 (.not (.t 11)),
  o1 13 (.mov (.t 12)),
  o2 14 13 false (.ld true 2 (.t 3)),
  o2 15 13 false (.call 35 [(.t 14)]),
  o2 16 13 false (.bin .neq (.t 15) (.i 0)),
  o1 17 (.pick (.t 13) (.c (.bool true)) (.t 16))]
def r4_3 : List MOper := [o1 18 (.call 36 []),
  o1 6 (.mov (.t 18))]
def r4_4 : List MOper := [o1 19 (.mov (.t 1)),
  o1 20 (.cvt .u64 (.t 19)),
  o1 21 (.bin .rem (.t 20) (.c (.int .u64 2))),
  o1 22 (.cvt .i64 (.t 21)),
  o1 1 (.mov (.t 22))]
def q4_5 : List MOper := [ox (some 23) none .R false (.ld true 2 (.t 3)),
  o1 24 (.mov (.t 1)),
  o1 25 (.mov (.t 2)),
  ox (some 26) none .R false (.call 37 [(.t 23), (.t 24), (.t 25)]),
  ox (some 27) none .R false (.ld true 2 (.t 3)),
  o1 28 (.mov (.t 1)),
  o1 29 (.mov (.t 2)),
  ox (some 30) none .R false (.call 38 [(.t 27), (.t 28), (.t 29)]),
  o1 7 (.mov (.t 26)),
  o1 8 (.mov (.t 30))]
def r4_5 : List MOper := q4_5
def q4_6 : List MOper := [o1 31 (.mov (.t 7)),
  o1 32 (.len (.t 31)),
  o1 33 (.fld 0 (.t 3)),
  ox (some 34) none .R false (.ld false 1 (.t 33)),
  o1 35 (.len (.t 34)),
  o1 36 (.bin .eql (.t 32) (.t 35)),
  o1 37 (.mov (.t 36)),
  ox (some 38) (some (37, true)) .R false (.ld true 2 (.t 3)),
  o2 39 37 true (.mov (.t 1)),
  o2 40 37 true (.mov (.t 7)),
  ox (some 41) (some (37, true)) .R false (.call 39 [(.t 38), (.t 39), (.t 40)]),
  o2 42 37 true (.mov (.t 7)),
  ox (some 43) (some (37, true)) .R false (.call 32 [(.t 41), (.t 42)]),
  o1 44 (.pick (.t 37) (.t 43) (.c (.bool false))),
  o1 45 (.mov (.t 44)),
  o2 46 45 true (.mov (.t 8)),
  o2 47 45 true (.len (.t 46)),
  o2 48 45 true (.mov (.t 7)),
  o2 49 45 true (.len (.t 48)),
  o2 50 45 true (.bin .eql (.t 47) (.t 49)),
  o1 51 (.pick (.t 45) (.t 50) (.c (.bool false))),
  o1 52 (.mov (.t 51)),
  ox (some 53) (some (52, true)) .R false (.ld true 2 (.t 3)),
  o2 54 52 true (.mov (.t 1)),
  o2 55 52 true (.mov (.t 8)),
  ox (some 56) (some (52, true)) .R false (.call 39 [(.t 53), (.t 54), (.t 55)]),
  o2 57 52 true (.mov (.t 8)),
  ox (some 58) (some (52, true)) .R false (.call 32 [(.t 56), (.t 57)]),
  o1 59 (.pick (.t 52) (.t 58) (.c (.bool false))),
  o1 60 (.mov (.t 59)),
  ox (some 61) (some (60, true)) .R false (.ld true 2 (.t 3)),
  o2 62 60 true (.mov (.t 1)),
  ox (some 63) (some (60, true)) .R false (.ld true 2 (.t 3)),
  o2 64 60 true (.mov (.t 2)),
  o2 65 60 true (.mov (.t 7)),
  ox (some 66) (some (60, true)) .R false (.call 40 [(.t 63), (.t 64), (.t 65)]),
  ox (some 67) (some (60, true)) .R false (.call 37 [(.t 61), (.t 62), (.t 66)]),
  o2 68 60 true (.mov (.t 7)),
  ox (some 69) (some (60, true)) .R false (.call 32 [(.t 67), (.t 68)]),
  o1 70 (.pick (.t 60) (.t 69) (.c (.bool false))),
  o1 71 (.mov (.t 70)),
  ox (some 72) (some (71, true)) .R false (.call 36 []),
  o1 73 (.pick (.t 71) (.t 72) (.c (.bool false))),
  o1 6 (.mov (.t 73))]
def r4_6 : List MOper := q4_6
def c4 : MCode := .seq (.reg false r4_1 [1, 2, 3])
 (.seq (.seq (.reg false r4_2 [1, 2, 3, 17])
 (.cond 17 (.seq (.reg false r4_3 [6])
 (.ret)) (.skip)))
 (.seq (.reg false r4_4 [1, 2, 3])
 (.seq (.reg true r4_5 [1, 2, 3, 7, 8])
 (.seq (.reg true r4_6 [6])
 (.ret)))))
def m4 : MFunc := ⟨3, [.tmp 6], c4⟩
def r5_1 : List MOper := [o1 3 (.box (.t 0)),
  o1 6 (.mov (.c (.bool false)))]
def r5_2 : List MOper := [o1 12 (.ld true 2 (.t 3)),
  o1 13 (.mov (.t 2)),
  o1 14 (.call 34 [(.t 12), (.t 13)]),
  o1 15 (.not (.t 14)),
  o1 16 (.mov (.t 15)),
  o2 17 16 false (.ld true 2 (.t 3)),
  o2 18 16 false (.call 35 [(.t 17)]),
  o2 19 16 false (.bin .neq (.t 18) (.i 0)),
  o1 20 (.pick (.t 16) (.c (.bool true)) (.t 19))]
def r5_3 : List MOper := [o1 21 (.call 36 []),
  o1 6 (.mov (.t 21))]
def r5_4 : List MOper := [o1 22 (.mov (.t 1)),
  o1 23 (.cvt .u64 (.t 22)),
  o1 24 (.bin .rem (.t 23) (.c (.int .u64 2))),
  o1 25 (.cvt .i64 (.t 24)),
  o1 1 (.mov (.t 25))]
def q5_5 : List MOper := [ox (some 26) none .R false (.ld true 2 (.t 3)),
  o1 27 (.mov (.t 1)),
  o1 28 (.mov (.t 2)),
  ox (some 29) none .R false (.call 37 [(.t 26), (.t 27), (.t 28)]),
  ox (some 30) none .R false (.ld true 2 (.t 3)),
  o1 31 (.mov (.t 1)),
  o1 32 (.bin .sub (.i 1) (.t 31)),
  ox (some 33) none .R false (.ld true 2 (.t 3)),
  o1 34 (.mov (.t 2)),
  ox (some 35) none .R false (.call 41 [(.t 33), (.t 34)]),
  ox (some 36) none .R false (.call 38 [(.t 30), (.t 32), (.t 35)]),
  o1 7 (.mov (.t 29)),
  o1 8 (.mov (.t 36))]
def r5_5 : List MOper := q5_5
def q5_6 : List MOper := [ox (some 37) none .R false (.ld true 2 (.t 3)),
  o1 38 (.mov (.t 1)),
  o1 39 (.mov (.t 2)),
  ox (some 40) none .R false (.call 42 [(.t 37), (.t 38), (.t 39)]),
  ox (some 41) none .R false (.ld true 2 (.t 3)),
  o1 42 (.mov (.t 1)),
  o1 43 (.mov (.t 2)),
  ox (some 44) none .R false (.call 38 [(.t 41), (.t 42), (.t 43)]),
  o1 9 (.mov (.t 40)),
  o1 10 (.mov (.t 44))]
def r5_6 : List MOper := q5_6
def r5_7 : List MOper := [o1 45 (.mov (.t 7)),
  o1 46 (.len (.t 45)),
  o1 47 (.fld 0 (.t 3)),
  o1 48 (.ld false 1 (.t 47)),
  o1 49 (.len (.t 48)),
  o1 50 (.bin .neq (.t 46) (.t 49)),
  o1 51 (.mov (.t 50)),
  o2 52 51 false (.mov (.t 8)),
  o2 53 51 false (.len (.t 52)),
  o2 54 51 false (.mov (.t 7)),
  o2 55 51 false (.len (.t 54)),
  o2 56 51 false (.bin .neq (.t 53) (.t 55)),
  o1 57 (.pick (.t 51) (.c (.bool true)) (.t 56)),
  o1 58 (.mov (.t 57)),
  o2 59 58 false (.mov (.t 9)),
  o2 60 58 false (.len (.t 59)),
  o2 61 58 false (.mov (.t 7)),
  o2 62 58 false (.len (.t 61)),
  o2 63 58 false (.bin .neq (.t 60) (.t 62)),
  o1 64 (.pick (.t 58) (.c (.bool true)) (.t 63)),
  o1 65 (.mov (.t 64)),
  o2 66 65 false (.mov (.t 10)),
  o2 67 65 false (.len (.t 66)),
  o2 68 65 false (.mov (.t 7)),
  o2 69 65 false (.len (.t 68)),
  o2 70 65 false (.bin .neq (.t 67) (.t 69)),
  o1 71 (.pick (.t 65) (.c (.bool true)) (.t 70))]
def r5_8 : List MOper := [o1 6 (.mov (.c (.bool false)))]
def r5_9 : List MOper := [o1 72 (.mov (.t 7)),
  o1 73 (.len (.t 72)),
  o1 74 (.mov (.i 0))]
def r5_10 : List MOper := [o1 75 (.bin .lss (.t 74) (.t 73))]
def r5_11 : List MOper := [o1 76 (.mov (.t 74)),
  o1 11 (.mov (.t 76))]
def q5_12 : List MOper := [o1 77 (.mov (.t 7)),
  o1 78 (.mov (.t 11)),
  o1 79 (.ixs 1 (.t 77) (.t 78)),
  ox (some 80) none .R false (.ld false 1 (.t 79)),
  o1 81 (.mov (.t 8)),
  o1 82 (.mov (.t 11)),
  o1 83 (.ixs 1 (.t 81) (.t 82)),
  ox (some 84) none .R false (.ld false 1 (.t 83)),
  o1 85 (.beq false (.t 80) (.t 84)),
  o1 86 (.mov (.t 85)),
  o2 87 86 false (.mov (.t 9)),
  o2 88 86 false (.mov (.t 11)),
  o2 89 86 false (.ixs 1 (.t 87) (.t 88)),
  ox (some 90) (some (86, false)) .R false (.ld false 1 (.t 89)),
  o2 91 86 false (.mov (.t 90)),
  o2 92 91 true (.mov (.t 10)),
  o2 93 91 true (.mov (.t 11)),
  o2 94 91 true (.ixs 1 (.t 92) (.t 93)),
  ox (some 95) (some (91, true)) .R false (.ld false 1 (.t 94)),
  o2 96 91 true (.not (.t 95)),
  o2 97 86 false (.pick (.t 91) (.t 96) (.c (.bool false))),
  o1 98 (.pick (.t 86) (.c (.bool true)) (.t 97)),
  o1 99 (.mov (.t 98)),
  o2 100 99 false (.mov (.t 10)),
  o2 101 99 false (.mov (.t 11)),
  o2 102 99 false (.ixs 1 (.t 100) (.t 101)),
  ox (some 103) (some (99, false)) .R false (.ld false 1 (.t 102)),
  o2 104 99 false (.mov (.t 103)),
  o2 105 104 true (.mov (.t 7)),
  o2 106 104 true (.mov (.t 11)),
  o2 107 104 true (.ixs 1 (.t 105) (.t 106)),
  ox (some 108) (some (104, true)) .R false (.ld false 1 (.t 107)),
  o2 109 104 true (.not (.t 108)),
  o2 110 99 false (.pick (.t 104) (.t 109) (.c (.bool false))),
  o1 111 (.pick (.t 99) (.c (.bool true)) (.t 110))]
def r5_12 : List MOper := q5_12
def r5_13 : List MOper := [o1 6 (.mov (.c (.bool false)))]
def r5_14 : List MOper := [o1 112 (.bin .add (.t 74) (.i 1)),
  o1 74 (.mov (.t 112))]
def b5_1 : MCode := .seq (.reg false r5_10 [7, 8, 9, 10, 73, 74, 75])
 (.seq (.cond 75 (.skip) (.exit 0))
 (.seq (.block 1 (.seq (.reg false r5_11 [7, 8, 9, 10, 11, 73, 74])
 (.seq (.reg true r5_12 [7, 8, 9, 10, 73, 74, 111])
 (.cond 111 (.seq (.reg false r5_13 [6])
 (.ret)) (.skip)))))
 (.reg false r5_14 [7, 8, 9, 10, 73, 74])))
def r5_15 : List MOper := [o1 113 (.call 36 []),
  o1 6 (.mov (.t 113))]
def c5 : MCode := .seq (.reg false r5_1 [1, 2, 3])
 (.seq (.seq (.reg false r5_2 [1, 2, 3, 20])
 (.cond 20 (.seq (.reg false r5_3 [6])
 (.ret)) (.skip)))
 (.seq (.reg false r5_4 [1, 2, 3])
 (.seq (.reg true r5_5 [1, 2, 3, 7, 8])
 (.seq (.reg true r5_6 [3, 7, 8, 9, 10])
 (.seq (.seq (.reg false r5_7 [7, 8, 9, 10, 71])
 (.cond 71 (.seq (.reg false r5_8 [6])
 (.ret)) (.skip)))
 (.seq (.seq (.reg false r5_9 [7, 8, 9, 10, 73, 74])
 (.block 0 (.loop [7, 8, 9, 10, 73, 74] b5_1)))
 (.seq (.reg false r5_15 [6])
 (.ret))))))))
def m5 : MFunc := ⟨3, [.tmp 6], c5⟩
def r6_1 : List MOper := [o1 3 (.box (.t 0)),
  o1 6 (.mov (.c (.bool false)))]
def r6_2 : List MOper := [o1 11 (.ld true 2 (.t 3)),
  o1 12 (.mov (.t 2)),
  o1 13 (.call 43 [(.t 11), (.t 12)]),
  o1 14 (.not (.t 13)),
  o1 15 (.mov (.t 14)),
  o2 16 15 false (.ld true 2 (.t 3)),
  o2 17 15 false (.call 35 [(.t 16)]),
  o2 18 15 false (.bin .neq (.t 17) (.i 0)),
  o1 19 (.pick (.t 15) (.c (.bool true)) (.t 18))]
def r6_3 : List MOper := [o1 20 (.call 44 []),
  o1 6 (.mov (.t 20))]
def r6_4 : List MOper := [o1 21 (.mov (.t 1)),
  o1 22 (.cvt .u64 (.t 21)),
  o1 23 (.bin .rem (.t 22) (.c (.int .u64 2))),
  o1 24 (.cvt .i64 (.t 23)),
  o1 1 (.mov (.t 24))]
def r6_5 : List MOper := [o1 25 (.ld true 2 (.t 3)),
  o1 26 (.mov (.t 1)),
  o1 27 (.mov (.t 2)),
  o1 28 (.call 42 [(.t 25), (.t 26), (.t 27)]),
  o1 7 (.mov (.t 28))]
def q6_6 : List MOper := [ox (some 29) none .R false (.ld true 2 (.t 3)),
  o1 30 (.mov (.t 1)),
  ox (some 31) none .R false (.ld true 2 (.t 3)),
  o1 32 (.mov (.t 1)),
  o1 33 (.mov (.t 2)),
  ox (some 34) none .R false (.call 46 [(.t 31), (.t 32), (.t 33)]),
  ox (some 35) none .R false (.call 45 [(.t 29), (.t 30), (.t 34)]),
  ox (some 8) none .A false (.alloc [.fz .isnil 1 [], .fz .isnil 1 []] []),
  ox none none .L false (.st 2 (.t 8) (.t 35))]
def r6_6 : List MOper := q6_6
def r6_7 : List MOper := [o1 36 (.ld true 2 (.t 8)),
  o1 37 (.mov (.t 7)),
  o1 38 (.call 47 [(.t 36), (.t 37)]),
  o1 9 (.mov (.t 38))]
def r6_8 : List MOper := [o1 39 (.mov (.t 7)),
  o1 40 (.len (.t 39)),
  o1 41 (.fld 0 (.t 3)),
  o1 42 (.ld false 1 (.t 41)),
  o1 43 (.len (.t 42)),
  o1 44 (.bin .neq (.t 40) (.t 43)),
  o1 45 (.mov (.t 44)),
  o2 46 45 false (.fld 1 (.t 8)),
  o2 47 45 false (.ld false 1 (.t 46)),
  o2 48 45 false (.len (.t 47)),
  o2 49 45 false (.mov (.t 7)),
  o2 50 45 false (.len (.t 49)),
  o2 51 45 false (.bin .neq (.t 48) (.t 50)),
  o1 52 (.pick (.t 45) (.c (.bool true)) (.t 51)),
  o1 53 (.mov (.t 52)),
  o2 54 53 false (.mov (.t 9)),
  o2 55 53 false (.mov (.t 7)),
  o2 56 53 false (.call 32 [(.t 54), (.t 55)]),
  o2 57 53 false (.not (.t 56)),
  o1 58 (.pick (.t 53) (.c (.bool true)) (.t 57))]
def r6_9 : List MOper := [o1 6 (.mov (.c (.bool false)))]
def r6_10 : List MOper := [o1 59 (.mov (.t 7)),
  o1 60 (.len (.t 59)),
  o1 61 (.mov (.i 0))]
def r6_11 : List MOper := [o1 62 (.bin .lss (.t 61) (.t 60))]
def r6_12 : List MOper := [o1 63 (.mov (.t 61)),
  o1 10 (.mov (.t 63))]
def r6_13 : List MOper := [o1 64 (.mov (.t 7)),
  o1 65 (.mov (.t 10)),
  o1 66 (.ixs 1 (.t 64) (.t 65)),
  o1 67 (.ld false 1 (.t 66)),
  o1 68 (.mov (.t 67)),
  o2 69 68 true (.mov (.t 2)),
  o2 70 68 true (.mov (.t 10)),
  o2 71 68 true (.call 48 [(.t 69), (.t 70)]),
  o2 72 68 true (.not (.t 71)),
  o2 73 68 true (.mov (.t 72)),
  o2 74 73 false (.fld 0 (.t 3)),
  o2 75 73 false (.ld false 1 (.t 74)),
  o2 76 73 false (.mov (.t 10)),
  o2 77 73 false (.ixs 1 (.t 75) (.t 76)),
  o2 78 73 false (.ld false 1 (.t 77)),
  o2 79 73 false (.mov (.t 1)),
  o2 80 73 false (.bin .eql (.t 78) (.t 79)),
  o2 81 73 false (.mov (.t 80)),
  o2 82 81 true (.fld 1 (.t 8)),
  o2 83 81 true (.ld false 1 (.t 82)),
  o2 84 81 true (.mov (.t 10)),
  o2 85 81 true (.ixs 1 (.t 83) (.t 84)),
  o2 86 81 true (.ld false 1 (.t 85)),
  o2 87 81 true (.len (.t 86)),
  o2 88 81 true (.bin .neq (.t 87) (.i 1)),
  o2 89 73 false (.pick (.t 81) (.t 88) (.c (.bool false))),
  o2 90 68 true (.pick (.t 73) (.c (.bool true)) (.t 89)),
  o1 91 (.pick (.t 68) (.t 90) (.c (.bool false)))]
def r6_14 : List MOper := [o1 6 (.mov (.c (.bool false)))]
def r6_15 : List MOper := [o1 92 (.bin .add (.t 61) (.i 1)),
  o1 61 (.mov (.t 92))]
def b6_1 : MCode := .seq (.reg false r6_11 [1, 2, 3, 7, 8, 60, 61, 62])
 (.seq (.cond 62 (.skip) (.exit 0))
 (.seq (.block 1 (.seq (.reg false r6_12 [1, 2, 3, 7, 8, 10, 60, 61])
 (.seq (.reg false r6_13 [1, 2, 3, 7, 8, 60, 61, 91])
 (.cond 91 (.seq (.reg false r6_14 [6])
 (.ret)) (.skip)))))
 (.reg false r6_15 [1, 2, 3, 7, 8, 60, 61])))
def r6_16 : List MOper := [o1 93 (.ld true 2 (.t 3)),
  o1 94 (.mov (.t 1)),
  o1 95 (.mov (.t 7)),
  o1 96 (.call 42 [(.t 93), (.t 94), (.t 95)]),
  o1 97 (.mov (.t 7)),
  o1 98 (.call 32 [(.t 96), (.t 97)]),
  o1 99 (.mov (.t 98)),
  o2 100 99 true (.call 44 []),
  o1 101 (.pick (.t 99) (.t 100) (.c (.bool false))),
  o1 6 (.mov (.t 101))]
def c6 : MCode := .seq (.reg false r6_1 [1, 2, 3])
 (.seq (.seq (.reg false r6_2 [1, 2, 3, 19])
 (.cond 19 (.seq (.reg false r6_3 [6])
 (.ret)) (.skip)))
 (.seq (.reg false r6_4 [1, 2, 3])
 (.seq (.reg false r6_5 [1, 2, 3, 7])
 (.seq (.reg true r6_6 [1, 2, 3, 7, 8])
 (.seq (.reg false r6_7 [1, 2, 3, 7, 8, 9])
 (.seq (.seq (.reg false r6_8 [1, 2, 3, 7, 8, 58])
 (.cond 58 (.seq (.reg false r6_9 [6])
 (.ret)) (.skip)))
 (.seq (.seq (.reg false r6_10 [1, 2, 3, 7, 8, 60, 61])
 (.block 0 (.loop [1, 2, 3, 7, 8, 60, 61] b6_1)))
 (.seq (.reg false r6_16 [6])
 (.ret)))))))))
def m6 : MFunc := ⟨3, [.tmp 6], c6⟩
def r7_1 : List MOper := [o1 3 (.box (.t 0)),
  o1 6 (.mov (.c (.bool false)))]
def r7_2 : List MOper := [o1 28 (.ld true 2 (.t 3)),
  o1 29 (.mov (.t 1)),
  o1 30 (.mov (.t 2)),
  o1 31 (.call 49 [(.t 28), (.t 29), (.t 30)]),
  o1 32 (.bin .gtr (.t 31) (.i 0))]
def r7_3 : List MOper := [o1 33 (.call 50 []),
  o1 6 (.mov (.t 33))]
def r7_4 : List MOper := [o1 34 (.ld true 2 (.t 3)),
  o1 35 (.mov (.t 1)),
  o1 36 (.mov (.t 2)),
  o1 37 (.call 51 [(.t 34), (.t 35), (.t 36)]),
  o1 7 (.mov (.t 37))]
def r7_5 : List MOper := [o1 39 (.ld true 2 (.t 3)),
  o1 40 (.mov (.t 1)),
  o1 41 (.mov (.t 2)),
  o1 42 (.call 52 [(.t 39), (.t 40), (.t 41)]),
  o1 38 (.mov (.t 42)),
  o1 43 (.ext (.t 38) 0),
  o1 44 (.ext (.t 38) 1),
  o1 8 (.mov (.t 43)),
  o1 9 (.mov (.t 44))]
def r7_6 : List MOper := [o1 45 (.mov (.t 8)),
  o1 46 (.isn (.t 45))]
def r7_7 : List MOper := [o1 47 (.mov (.t 7)),
  o1 48 (.len (.t 47)),
  o1 49 (.bin .eql (.t 48) (.i 0)),
  o1 50 (.mov (.t 49)),
  o2 51 50 true (.call 50 []),
  o1 52 (.pick (.t 50) (.t 51) (.c (.bool false))),
  o1 6 (.mov (.t 52))]
def r7_8 : List MOper := [o1 53 (.mov (.t 2)),
  o1 54 (.len (.t 53)),
  o1 55 (.mx [(.i 1), (.t 54)]),
  o1 10 (.mov (.t 55))]
def r7_9 : List MOper := [o1 56 (.mov (.t 8)),
  o1 57 (.len (.t 56)),
  o1 58 (.mov (.t 10)),
  o1 59 (.bin .mul (.t 57) (.t 58)),
  o1 60 (.mkrows 1 (.t 59)),
  o1 11 (.mov (.t 60))]
def r7_10 : List MOper := [o1 61 (.mov (.t 11)),
  o1 62 (.len (.t 61)),
  o1 63 (.mksl 1 (.bool false) (.t 62)),
  o1 12 (.mov (.t 63))]
def r7_11 : List MOper := [o1 13 (.tnil 1),
  o1 14 (.tnil 1)]
def r7_12 : List MOper := [o1 64 (.mov (.t 1)),
  o1 65 (.len (.t 64)),
  o1 66 (.mov (.i 0))]
def r7_13 : List MOper := [o1 67 (.bin .lss (.t 66) (.t 65))]
def r7_14 : List MOper := [o1 68 (.ixs 1 (.t 64) (.t 66)),
  o1 69 (.ld false 1 (.t 68)),
  o1 16 (.mov (.t 69))]
def r7_15 : List MOper := [o1 70 (.mov (.t 13)),
  o1 71 (.mov (.t 16)),
  o1 72 (.mov (.t 8)),
  o1 73 (.len (.t 72)),
  o1 74 (.mov (.t 10)),
  o1 75 (.call 53 [(.t 71), (.t 73), (.t 74)]),
  o1 76 (.bsl false 1 [(.t 75)]),
  o1 77 (.app 1 (.t 70) (.t 76)),
  o1 13 (.mov (.t 77))]
def r7_16 : List MOper := [o1 78 (.bin .add (.t 66) (.i 1)),
  o1 66 (.mov (.t 78))]
def b7_1 : MCode := .seq (.reg false r7_13 [2, 3, 7, 8, 10, 11, 12, 13, 14, 64, 65, 66, 67])
 (.seq (.cond 67 (.skip) (.exit 0))
 (.seq (.block 1 (.seq (.reg false r7_14 [2, 3, 7, 8, 10, 11, 12, 13, 14, 16, 64, 65, 66])
 (.reg false r7_15 [2, 3, 7, 8, 10, 11, 12, 13, 14, 64, 65, 66])))
 (.reg false r7_16 [2, 3, 7, 8, 10, 11, 12, 13, 14, 64, 65, 66])))
def r7_17 : List MOper := [o1 79 (.mov (.t 2)),
  o1 80 (.len (.t 79)),
  o1 81 (.mov (.i 0))]
def r7_18 : List MOper := [o1 82 (.bin .lss (.t 81) (.t 80))]
def r7_19 : List MOper := [o1 83 (.ixs 1 (.t 79) (.t 81)),
  o1 84 (.ld false 1 (.t 83)),
  o1 18 (.mov (.t 84))]
def r7_20 : List MOper := [o1 85 (.mov (.t 14)),
  o1 86 (.mov (.t 18)),
  o1 87 (.mov (.t 8)),
  o1 88 (.len (.t 87)),
  o1 89 (.mov (.t 10)),
  o1 90 (.call 53 [(.t 86), (.t 88), (.t 89)]),
  o1 91 (.bsl false 1 [(.t 90)]),
  o1 92 (.app 1 (.t 85) (.t 91)),
  o1 14 (.mov (.t 92))]
def r7_21 : List MOper := [o1 93 (.bin .add (.t 81) (.i 1)),
  o1 81 (.mov (.t 93))]
def b7_2 : MCode := .seq (.reg false r7_18 [2, 3, 7, 8, 10, 11, 12, 13, 14, 79, 80, 81, 82])
 (.seq (.cond 82 (.skip) (.exit 2))
 (.seq (.block 3 (.seq (.reg false r7_19 [2, 3, 7, 8, 10, 11, 12, 13, 14, 18, 79, 80, 81])
 (.reg false r7_20 [2, 3, 7, 8, 10, 11, 12, 13, 14, 79, 80, 81])))
 (.reg false r7_21 [2, 3, 7, 8, 10, 11, 12, 13, 14, 79, 80, 81])))
def r7_22 : List MOper := [o1 19 (.mov (.i 0))]
def r7_23 : List MOper := [o1 94 (.mov (.t 8)),
  o1 95 (.len (.t 94)),
  o1 96 (.mov (.i 0))]
def r7_24 : List MOper := [o1 97 (.bin .lss (.t 96) (.t 95))]
def r7_25 : List MOper := [o1 98 (.mov (.t 96)),
  o1 20 (.mov (.t 98))]
def r7_26 : List MOper := [o1 99 (.mov (.t 10)),
  o1 100 (.mov (.i 0))]
def r7_27 : List MOper := [o1 101 (.bin .lss (.t 100) (.t 99))]
def r7_28 : List MOper := [o1 102 (.mov (.t 100)),
  o1 21 (.mov (.t 102))]
def r7_29 : List MOper := [o1 103 (.ld true 2 (.t 3)),
  o1 104 (.mov (.t 2)),
  o1 105 (.mov (.t 20)),
  o1 106 (.mov (.t 21)),
  o1 107 (.call 54 [(.t 103), (.t 104), (.t 105), (.t 106)]),
  o1 22 (.mov (.t 107))]
def r7_30 : List MOper := [o1 108 (.mov (.t 22)),
  o1 109 (.bin .lss (.t 108) (.i 0)),
  o1 110 (.mov (.t 109)),
  o2 111 110 false (.ld true 2 (.t 3)),
  o2 112 110 false (.mov (.t 2)),
  o2 113 110 false (.mov (.t 20)),
  o2 114 110 false (.mov (.t 21)),
  o2 115 110 false (.call 55 [(.t 111), (.t 112), (.t 113), (.t 114)]),
  o2 116 110 false (.mov (.t 22)),
  o2 117 110 false (.bin .neq (.t 115) (.t 116)),
  o1 118 (.pick (.t 110) (.c (.bool true)) (.t 117))]
def r7_31 : List MOper := [o1 6 (.mov (.c (.bool false)))]
def r7_32 : List MOper := [o1 119 (.mov (.t 12)),
  o1 120 (.mov (.t 20)),
  o1 121 (.mov (.t 10)),
  o1 122 (.bin .mul (.t 120) (.t 121)),
  o1 123 (.mov (.t 21)),
  o1 124 (.bin .add (.t 122) (.t 123)),
  o1 125 (.mov (.t 8)),
  o1 126 (.mov (.t 20)),
  o1 127 (.ixs 1 (.t 125) (.t 126)),
  o1 128 (.ld false 1 (.t 127)),
  o1 129 (.ixs 1 (.t 119) (.t 124)),
  n1 (.st 1 (.t 129) (.t 128))]
def r7_33 : List MOper := [o1 130 (.fld 0 (.t 3)),
  o1 131 (.ld false 1 (.t 130)),
  o1 132 (.mov (.t 20)),
  o1 133 (.ixs 1 (.t 131) (.t 132)),
  o1 134 (.ld false 1 (.t 133)),
  o1 135 (.bin .eql (.t 134) (.i 0)),
  o1 136 (.mov (.t 135)),
  o2 137 136 false (.mov (.t 8)),
  o2 138 136 false (.mov (.t 20)),
  o2 139 136 false (.ixs 1 (.t 137) (.t 138)),
  o2 140 136 false (.ld false 1 (.t 139)),
  o2 141 136 false (.not (.t 140)),
  o1 142 (.pick (.t 136) (.c (.bool true)) (.t 141))]
def r7_34 : List MOper := [o1 143 (.fld 1 (.t 3)),
  o1 144 (.ld false 1 (.t 143)),
  o1 145 (.mov (.t 20)),
  o1 146 (.ixs 1 (.t 144) (.t 145)),
  o1 147 (.ld false 1 (.t 146)),
  o1 148 (.len (.t 147)),
  o1 149 (.mov (.i 0))]
def r7_35 : List MOper := [o1 150 (.bin .lss (.t 149) (.t 148))]
def r7_36 : List MOper := [o1 151 (.ixs 1 (.t 147) (.t 149)),
  o1 152 (.ld false 1 (.t 151)),
  o1 24 (.mov (.t 152))]
def r7_37 : List MOper := [o1 153 (.mov (.t 11)),
  o1 154 (.mov (.t 20)),
  o1 155 (.mov (.t 10)),
  o1 156 (.bin .mul (.t 154) (.t 155)),
  o1 157 (.mov (.t 21)),
  o1 158 (.bin .add (.t 156) (.t 157)),
  o1 159 (.mov (.t 11)),
  o1 160 (.mov (.t 20)),
  o1 161 (.mov (.t 10)),
  o1 162 (.bin .mul (.t 160) (.t 161)),
  o1 163 (.mov (.t 21)),
  o1 164 (.bin .add (.t 162) (.t 163)),
  o1 165 (.ixs 1 (.t 159) (.t 164)),
  o1 166 (.ld false 1 (.t 165)),
  o1 167 (.mov (.t 24)),
  o1 168 (.mov (.t 10)),
  o1 169 (.bin .mul (.t 167) (.t 168)),
  o1 170 (.mov (.t 22)),
  o1 171 (.bin .add (.t 169) (.t 170)),
  o1 172 (.bsl false 1 [(.t 171)]),
  o1 173 (.app 1 (.t 166) (.t 172)),
  o1 174 (.ixs 1 (.t 153) (.t 158)),
  n1 (.st 1 (.t 174) (.t 173))]
def r7_38 : List MOper := [o1 175 (.bin .add (.t 149) (.i 1)),
  o1 149 (.mov (.t 175))]
def b7_5 : MCode := .seq (.reg false r7_35 [2, 3, 7, 8, 10, 11, 12, 13, 14, 19, 20, 21, 22, 95, 96, 99, 100, 147, 148, 149, 150])
 (.seq (.cond 150 (.skip) (.exit 8))
 (.seq (.block 9 (.seq (.reg false r7_36 [2, 3, 7, 8, 10, 11, 12, 13, 14, 19, 20, 21, 22, 24, 95, 96, 99, 100, 147, 148, 149])
 (.reg false r7_37 [2, 3, 7, 8, 10, 11, 12, 13, 14, 19, 20, 21, 22, 95, 96, 99, 100, 147, 148, 149])))
 (.reg false r7_38 [2, 3, 7, 8, 10, 11, 12, 13, 14, 19, 20, 21, 22, 95, 96, 99, 100, 147, 148, 149])))
def r7_39 : List MOper := [o1 176 (.mov (.t 19)),
  o1 177 (.mov (.t 7)),
  o1 178 (.len (.t 177)),
  o1 179 (.bin .geq (.t 176) (.t 178)),
  o1 180 (.mov (.t 179)),
  o2 181 180 false (.mov (.t 7)),
  o2 182 180 false (.mov (.t 19)),
  o2 183 180 false (.ixs 4 (.t 181) (.t 182)),
  o2 184 180 false (.fld 0 (.t 183)),
  o2 185 180 false (.ld false 1 (.t 184)),
  o2 186 180 false (.mov (.t 20)),
  o2 187 180 false (.bin .neq (.t 185) (.t 186)),
  o1 188 (.pick (.t 180) (.c (.bool true)) (.t 187)),
  o1 189 (.mov (.t 188)),
  o2 190 189 false (.mov (.t 7)),
  o2 191 189 false (.mov (.t 19)),
  o2 192 189 false (.ixs 4 (.t 190) (.t 191)),
  o2 193 189 false (.fld 1 (.t 192)),
  o2 194 189 false (.ld false 1 (.t 193)),
  o2 195 189 false (.mov (.t 21)),
  o2 196 189 false (.bin .neq (.t 194) (.t 195)),
  o1 197 (.pick (.t 189) (.c (.bool true)) (.t 196)),
  o1 198 (.mov (.t 197)),
  o2 199 198 false (.mov (.t 7)),
  o2 200 198 false (.mov (.t 19)),
  o2 201 198 false (.ixs 4 (.t 199) (.t 200)),
  o2 202 198 false (.fld 3 (.t 201)),
  o2 203 198 false (.ld false 1 (.t 202)),
  o2 204 198 false (.mov (.t 22)),
  o2 205 198 false (.bin .neq (.t 203) (.t 204)),
  o1 206 (.pick (.t 198) (.c (.bool true)) (.t 205))]
def r7_40 : List MOper := [o1 6 (.mov (.c (.bool false)))]
def r7_41 : List MOper := [o1 25 (.mov (.c (.bool false)))]
def r7_42 : List MOper := [o1 207 (.fld 1 (.t 3)),
  o1 208 (.ld false 1 (.t 207)),
  o1 209 (.mov (.t 20)),
  o1 210 (.ixs 1 (.t 208) (.t 209)),
  o1 211 (.ld false 1 (.t 210)),
  o1 212 (.len (.t 211)),
  o1 213 (.mov (.i 0))]
def r7_43 : List MOper := [o1 214 (.bin .lss (.t 213) (.t 212))]
def r7_44 : List MOper := [o1 215 (.ixs 1 (.t 211) (.t 213)),
  o1 216 (.ld false 1 (.t 215)),
  o1 27 (.mov (.t 216))]
def r7_45 : List MOper := [o1 217 (.mov (.t 25)),
  o1 218 (.mov (.t 217)),
  o2 219 218 false (.mov (.t 27)),
  o2 220 218 false (.mov (.t 7)),
  o2 221 218 false (.mov (.t 19)),
  o2 222 218 false (.ixs 4 (.t 220) (.t 221)),
  o2 223 218 false (.fld 2 (.t 222)),
  o2 224 218 false (.ld false 1 (.t 223)),
  o2 225 218 false (.bin .eql (.t 219) (.t 224)),
  o1 226 (.pick (.t 218) (.c (.bool true)) (.t 225)),
  o1 25 (.mov (.t 226))]
def r7_46 : List MOper := [o1 227 (.bin .add (.t 213) (.i 1)),
  o1 213 (.mov (.t 227))]
def b7_6 : MCode := .seq (.reg false r7_43 [2, 3, 7, 8, 10, 11, 12, 13, 14, 19, 20, 21, 22, 25, 95, 96, 99, 100, 211, 212, 213, 214])
 (.seq (.cond 214 (.skip) (.exit 10))
 (.seq (.block 11 (.seq (.reg false r7_44 [2, 3, 7, 8, 10, 11, 12, 13, 14, 19, 20, 21, 22, 25, 27, 95, 96, 99, 100, 211, 212, 213])
 (.reg false r7_45 [2, 3, 7, 8, 10, 11, 12, 13, 14, 19, 20, 21, 22, 25, 95, 96, 99, 100, 211, 212, 213])))
 (.reg false r7_46 [2, 3, 7, 8, 10, 11, 12, 13, 14, 19, 20, 21, 22, 25, 95, 96, 99, 100, 211, 212, 213])))
def r7_47 : List MOper := [o1 228 (.mov (.t 25)),
  o1 229 (.not (.t 228))]
def r7_48 : List MOper := [o1 6 (.mov (.c (.bool false)))]
def r7_49 : List MOper := [o1 230 (.mov (.t 11)),
  o1 231 (.mov (.t 20)),
  o1 232 (.mov (.t 10)),
  o1 233 (.bin .mul (.t 231) (.t 232)),
  o1 234 (.mov (.t 21)),
  o1 235 (.bin .add (.t 233) (.t 234)),
  o1 236 (.mov (.t 7)),
  o1 237 (.mov (.t 19)),
  o1 238 (.ixs 4 (.t 236) (.t 237)),
  o1 239 (.fld 2 (.t 238)),
  o1 240 (.ld false 1 (.t 239)),
  o1 241 (.mov (.t 10)),
  o1 242 (.bin .mul (.t 240) (.t 241)),
  o1 243 (.mov (.t 22)),
  o1 244 (.bin .add (.t 242) (.t 243)),
  o1 245 (.bsl false 1 [(.t 244)]),
  o1 246 (.ixs 1 (.t 230) (.t 235)),
  n1 (.st 1 (.t 246) (.t 245))]
def r7_50 : List MOper := [o1 247 (.mov (.t 19)),
  o1 248 (.bin .add (.t 247) (.i 1)),
  o1 19 (.mov (.t 248))]
def r7_51 : List MOper := [o1 249 (.bin .add (.t 100) (.i 1)),
  o1 100 (.mov (.t 249))]
def b7_4 : MCode := .seq (.reg false r7_27 [2, 3, 7, 8, 10, 11, 12, 13, 14, 19, 20, 95, 96, 99, 100, 101])
 (.seq (.cond 101 (.skip) (.exit 6))
 (.seq (.block 7 (.seq (.reg false r7_28 [2, 3, 7, 8, 10, 11, 12, 13, 14, 19, 20, 21, 95, 96, 99, 100])
 (.seq (.reg false r7_29 [2, 3, 7, 8, 10, 11, 12, 13, 14, 19, 20, 21, 22, 95, 96, 99, 100])
 (.seq (.seq (.reg false r7_30 [2, 3, 7, 8, 10, 11, 12, 13, 14, 19, 20, 21, 22, 95, 96, 99, 100, 118])
 (.cond 118 (.seq (.reg false r7_31 [6])
 (.ret)) (.skip)))
 (.seq (.reg false r7_32 [2, 3, 7, 8, 10, 11, 12, 13, 14, 19, 20, 21, 22, 95, 96, 99, 100])
 (.seq (.seq (.reg false r7_33 [2, 3, 7, 8, 10, 11, 12, 13, 14, 19, 20, 21, 22, 95, 96, 99, 100, 142])
 (.cond 142 (.seq (.seq (.reg false r7_34 [2, 3, 7, 8, 10, 11, 12, 13, 14, 19, 20, 21, 22, 95, 96, 99, 100, 147, 148, 149])
 (.block 8 (.loop [2, 3, 7, 8, 10, 11, 12, 13, 14, 19, 20, 21, 22, 95, 96, 99, 100, 147, 148, 149] b7_5)))
 (.exit 7)) (.skip)))
 (.seq (.seq (.reg false r7_39 [2, 3, 7, 8, 10, 11, 12, 13, 14, 19, 20, 21, 22, 95, 96, 99, 100, 206])
 (.cond 206 (.seq (.reg false r7_40 [6])
 (.ret)) (.skip)))
 (.seq (.reg false r7_41 [2, 3, 7, 8, 10, 11, 12, 13, 14, 19, 20, 21, 22, 25, 95, 96, 99, 100])
 (.seq (.seq (.reg false r7_42 [2, 3, 7, 8, 10, 11, 12, 13, 14, 19, 20, 21, 22, 25, 95, 96, 99, 100, 211, 212, 213])
 (.block 10 (.loop [2, 3, 7, 8, 10, 11, 12, 13, 14, 19, 20, 21, 22, 25, 95, 96, 99, 100, 211, 212, 213] b7_6)))
 (.seq (.seq (.reg false r7_47 [2, 3, 7, 8, 10, 11, 12, 13, 14, 19, 20, 21, 22, 95, 96, 99, 100, 229])
 (.cond 229 (.seq (.reg false r7_48 [6])
 (.ret)) (.skip)))
 (.seq (.reg false r7_49 [2, 3, 7, 8, 10, 11, 12, 13, 14, 19, 20, 95, 96, 99, 100])
 (.reg false r7_50 [2, 3, 7, 8, 10, 11, 12, 13, 14, 19, 20, 95, 96, 99, 100]))))))))))))
 (.reg false r7_51 [2, 3, 7, 8, 10, 11, 12, 13, 14, 19, 20, 95, 96, 99, 100])))
def r7_52 : List MOper := [o1 250 (.bin .add (.t 96) (.i 1)),
  o1 96 (.mov (.t 250))]
def b7_3 : MCode := .seq (.reg false r7_24 [2, 3, 7, 8, 10, 11, 12, 13, 14, 19, 95, 96, 97])
 (.seq (.cond 97 (.skip) (.exit 4))
 (.seq (.block 5 (.seq (.reg false r7_25 [2, 3, 7, 8, 10, 11, 12, 13, 14, 19, 20, 95, 96])
 (.seq (.reg false r7_26 [2, 3, 7, 8, 10, 11, 12, 13, 14, 19, 20, 95, 96, 99, 100])
 (.block 6 (.loop [2, 3, 7, 8, 10, 11, 12, 13, 14, 19, 20, 95, 96, 99, 100] b7_4)))))
 (.reg false r7_52 [2, 3, 7, 8, 10, 11, 12, 13, 14, 19, 95, 96])))
def r7_53 : List MOper := [o1 251 (.mov (.t 19)),
  o1 252 (.mov (.t 7)),
  o1 253 (.len (.t 252)),
  o1 254 (.bin .eql (.t 251) (.t 253)),
  o1 255 (.mov (.t 254)),
  o2 256 255 true (.mov (.t 11)),
  o2 257 255 true (.mov (.t 12)),
  o2 258 255 true (.mov (.t 13)),
  o2 259 255 true (.mov (.t 14)),
  o2 260 255 true (.call 56 [(.t 256), (.t 257), (.t 258), (.t 259)]),
  o1 261 (.pick (.t 255) (.t 260) (.c (.bool false))),
  o1 262 (.mov (.t 261)),
  o2 263 262 true (.mov (.t 11)),
  o2 264 262 true (.mov (.t 8)),
  o2 265 262 true (.mov (.t 10)),
  o2 266 262 true (.call 57 [(.t 263), (.t 264), (.t 265)]),
  o1 267 (.pick (.t 262) (.t 266) (.c (.bool false))),
  o1 268 (.mov (.t 267)),
  o2 269 268 true (.call 50 []),
  o1 270 (.pick (.t 268) (.t 269) (.c (.bool false))),
  o1 6 (.mov (.t 270))]
def c7 : MCode := .seq (.reg false r7_1 [1, 2, 3])
 (.seq (.seq (.reg false r7_2 [1, 2, 3, 32])
 (.cond 32 (.seq (.reg false r7_3 [6])
 (.ret)) (.skip)))
 (.seq (.reg false r7_4 [1, 2, 3, 7])
 (.seq (.reg false r7_5 [1, 2, 3, 7, 8])
 (.seq (.seq (.reg false r7_6 [1, 2, 3, 7, 8, 46])
 (.cond 46 (.seq (.reg false r7_7 [6])
 (.ret)) (.skip)))
 (.seq (.reg false r7_8 [1, 2, 3, 7, 8, 10])
 (.seq (.reg false r7_9 [1, 2, 3, 7, 8, 10, 11])
 (.seq (.reg false r7_10 [1, 2, 3, 7, 8, 10, 11, 12])
 (.seq (.reg false r7_11 [1, 2, 3, 7, 8, 10, 11, 12, 13, 14])
 (.seq (.seq (.reg false r7_12 [2, 3, 7, 8, 10, 11, 12, 13, 14, 64, 65, 66])
 (.block 0 (.loop [2, 3, 7, 8, 10, 11, 12, 13, 14, 64, 65, 66] b7_1)))
 (.seq (.seq (.reg false r7_17 [2, 3, 7, 8, 10, 11, 12, 13, 14, 79, 80, 81])
 (.block 2 (.loop [2, 3, 7, 8, 10, 11, 12, 13, 14, 79, 80, 81] b7_2)))
 (.seq (.reg false r7_22 [2, 3, 7, 8, 10, 11, 12, 13, 14, 19])
 (.seq (.seq (.reg false r7_23 [2, 3, 7, 8, 10, 11, 12, 13, 14, 19, 95, 96])
 (.block 4 (.loop [2, 3, 7, 8, 10, 11, 12, 13, 14, 19, 95, 96] b7_3)))
 (.seq (.reg false r7_53 [6])
 (.ret))))))))))))))
def m7 : MFunc := ⟨3, [.tmp 6], c7⟩
def r8_1 : List MOper := [o1 4 (.box (.t 0)),
  o1 8 (.mov (.c (.bool false)))]
def r8_2 : List MOper := [o1 9 (.ld true 2 (.t 4)),
  o1 10 (.mov (.t 1)),
  o1 11 (.call 49 [(.t 9), (.c (.fz .isnil 1 [])), (.t 10)]),
  o1 12 (.bin .gtr (.t 11) (.i 0))]
def r8_3 : List MOper := [o1 13 (.call 50 []),
  o1 8 (.mov (.t 13))]
def q8_4 : List MOper := [ox (some 14) none .R false (.ld true 2 (.t 4)),
  o1 15 (.mov (.t 1)),
  o1 16 (.mov (.t 2)),
  o1 17 (.mov (.t 3)),
  ox (some 18) none .R false (.call 55 [(.t 14), (.t 15), (.t 16), (.t 17)]),
  ox (some 19) none .R false (.ld true 2 (.t 4)),
  o1 20 (.mov (.t 1)),
  o1 21 (.mov (.t 2)),
  o1 22 (.mov (.t 3)),
  ox (some 23) none .R false (.call 54 [(.t 19), (.t 20), (.t 21), (.t 22)]),
  o1 24 (.bin .eql (.t 18) (.t 23)),
  o1 25 (.mov (.t 24)),
  ox (some 26) (some (25, true)) .R false (.call 50 []),
  o1 27 (.pick (.t 25) (.t 26) (.c (.bool false))),
  o1 8 (.mov (.t 27))]
def r8_4 : List MOper := q8_4
def c8 : MCode := .seq (.reg false r8_1 [1, 2, 3, 4])
 (.seq (.seq (.reg false r8_2 [1, 2, 3, 4, 12])
 (.cond 12 (.seq (.reg false r8_3 [8])
 (.ret)) (.skip)))
 (.seq (.reg true r8_4 [8])
 (.ret)))
def m8 : MFunc := ⟨3, [.tmp 8], c8⟩
def r9_1 : List MOper := [o1 3 (.box (.t 0)),
  o1 6 (.mov (.c (.bool false)))]
def r9_2 : List MOper := [o1 14 (.ld true 2 (.t 3)),
  o1 15 (.mov (.t 1)),
  o1 16 (.mov (.t 2)),
  o1 17 (.call 49 [(.t 14), (.t 15), (.t 16)]),
  o1 18 (.bin .gtr (.t 17) (.i 0)),
  o1 19 (.mov (.t 18)),
  o2 20 19 false (.ld true 2 (.t 3)),
  o2 21 19 false (.call 35 [(.t 20)]),
  o2 22 19 false (.bin .neq (.t 21) (.i 0)),
  o1 23 (.pick (.t 19) (.c (.bool true)) (.t 22)),
  o1 24 (.mov (.t 23)),
  o2 25 24 false (.mov (.t 1)),
  o2 26 24 false (.len (.t 25)),
  o2 27 24 false (.bin .gtr (.t 26) (.i 4)),
  o1 28 (.pick (.t 24) (.c (.bool true)) (.t 27)),
  o1 29 (.mov (.t 28)),
  o2 30 29 false (.mov (.t 2)),
  o2 31 29 false (.len (.t 30)),
  o2 32 29 false (.bin .gtr (.t 31) (.i 4)),
  o1 33 (.pick (.t 29) (.c (.bool true)) (.t 32))]
def r9_3 : List MOper := [o1 34 (.call 50 []),
  o1 6 (.mov (.t 34))]
def r9_4 : List MOper := [o1 35 (.ld true 2 (.t 3)),
  o1 36 (.mov (.t 1)),
  o1 37 (.mov (.t 2)),
  o1 38 (.call 58 [(.t 35), (.t 36), (.t 37)]),
  o1 7 (.mov (.t 38))]
def r9_5 : List MOper := [o1 39 (.ld true 2 (.t 3)),
  o1 40 (.mov (.t 1)),
  o1 41 (.mov (.t 2)),
  o1 42 (.call 51 [(.t 39), (.t 40), (.t 41)]),
  o1 8 (.mov (.t 42))]
def r9_6 : List MOper := [o1 43 (.mov (.t 7)),
  o1 44 (.len (.t 43)),
  o1 45 (.fld 0 (.t 3)),
  o1 46 (.ld false 1 (.t 45)),
  o1 47 (.len (.t 46)),
  o1 48 (.bin .neq (.t 44) (.t 47))]
def r9_7 : List MOper := [o1 6 (.mov (.c (.bool false)))]
def r9_8 : List MOper := [o1 9 (.mov (.i 0))]
def r9_9 : List MOper := [o1 49 (.mov (.t 7)),
  o1 50 (.len (.t 49)),
  o1 51 (.mov (.i 0))]
def r9_10 : List MOper := [o1 52 (.bin .lss (.t 51) (.t 50))]
def r9_11 : List MOper := [o1 53 (.mov (.t 51)),
  o1 54 (.ixs 1 (.t 49) (.t 51)),
  o1 55 (.ld false 1 (.t 54)),
  o1 10 (.mov (.t 53)),
  o1 11 (.mov (.t 55))]
def r9_12 : List MOper := [o1 56 (.mov (.t 11)),
  o1 57 (.mov (.t 56)),
  o2 58 57 true (.fld 0 (.t 3)),
  o2 59 57 true (.ld false 1 (.t 58)),
  o2 60 57 true (.mov (.t 10)),
  o2 61 57 true (.ixs 1 (.t 59) (.t 60)),
  o2 62 57 true (.ld false 1 (.t 61)),
  o2 63 57 true (.bin .eql (.t 62) (.i 1)),
  o1 64 (.pick (.t 57) (.t 63) (.c (.bool false)))]
def r9_13 : List MOper := [o1 65 (.mov (.t 9)),
  o1 66 (.mov (.t 2)),
  o1 67 (.len (.t 66)),
  o1 68 (.mx [(.i 1), (.t 67)]),
  o1 69 (.bin .add (.t 65) (.t 68)),
  o1 9 (.mov (.t 69))]
def r9_14 : List MOper := [o1 70 (.bin .add (.t 51) (.i 1)),
  o1 51 (.mov (.t 70))]
def b9_1 : MCode := .seq (.reg false r9_10 [2, 3, 7, 8, 9, 49, 50, 51, 52])
 (.seq (.cond 52 (.skip) (.exit 0))
 (.seq (.block 1 (.seq (.reg false r9_11 [2, 3, 7, 8, 9, 10, 11, 49, 50, 51])
 (.seq (.reg false r9_12 [2, 3, 7, 8, 9, 49, 50, 51, 64])
 (.cond 64 (.reg false r9_13 [2, 3, 7, 8, 9, 49, 50, 51]) (.skip)))))
 (.reg false r9_14 [2, 3, 7, 8, 9, 49, 50, 51])))
def r9_15 : List MOper := [o1 71 (.mov (.t 8)),
  o1 72 (.len (.t 71)),
  o1 73 (.mov (.i 0))]
def r9_16 : List MOper := [o1 74 (.bin .lss (.t 73) (.t 72))]
def r9_17 : List MOper := [o1 75 (.mov (.t 73)),
  o1 76 (.ixs 4 (.t 71) (.t 73)),
  o1 77 (.ld true 4 (.t 76)),
  o1 13 (.alloc [.int .i64 0, .int .i64 0, .int .i64 0, .int .i64 0] []),
  o1 12 (.mov (.t 75)),
  n1 (.st 4 (.t 13) (.t 77))]
def q9_18 : List MOper := [o1 78 (.fld 0 (.t 13)),
  ox (some 79) none .R false (.ld false 1 (.t 78)),
  o1 80 (.bin .lss (.t 79) (.i 0)),
  o1 81 (.mov (.t 80)),
  o2 82 81 false (.fld 0 (.t 13)),
  ox (some 83) (some (81, false)) .R false (.ld false 1 (.t 82)),
  o2 84 81 false (.mov (.t 7)),
  o2 85 81 false (.len (.t 84)),
  o2 86 81 false (.bin .geq (.t 83) (.t 85)),
  o1 87 (.pick (.t 81) (.c (.bool true)) (.t 86)),
  o1 88 (.mov (.t 87)),
  o2 89 88 false (.mov (.t 7)),
  o2 90 88 false (.fld 0 (.t 13)),
  ox (some 91) (some (88, false)) .R false (.ld false 1 (.t 90)),
  o2 92 88 false (.ixs 1 (.t 89) (.t 91)),
  ox (some 93) (some (88, false)) .R false (.ld false 1 (.t 92)),
  o2 94 88 false (.not (.t 93)),
  o1 95 (.pick (.t 88) (.c (.bool true)) (.t 94)),
  o1 96 (.mov (.t 95)),
  o2 97 96 false (.fld 2 (.t 13)),
  ox (some 98) (some (96, false)) .R false (.ld false 1 (.t 97)),
  o2 99 96 false (.bin .lss (.t 98) (.i 0)),
  o1 100 (.pick (.t 96) (.c (.bool true)) (.t 99)),
  o1 101 (.mov (.t 100)),
  o2 102 101 false (.fld 2 (.t 13)),
  ox (some 103) (some (101, false)) .R false (.ld false 1 (.t 102)),
  o2 104 101 false (.mov (.t 7)),
  o2 105 101 false (.len (.t 104)),
  o2 106 101 false (.bin .geq (.t 103) (.t 105)),
  o1 107 (.pick (.t 101) (.c (.bool true)) (.t 106)),
  o1 108 (.mov (.t 107)),
  o2 109 108 false (.mov (.t 7)),
  o2 110 108 false (.fld 2 (.t 13)),
  ox (some 111) (some (108, false)) .R false (.ld false 1 (.t 110)),
  o2 112 108 false (.ixs 1 (.t 109) (.t 111)),
  ox (some 113) (some (108, false)) .R false (.ld false 1 (.t 112)),
  o2 114 108 false (.not (.t 113)),
  o1 115 (.pick (.t 108) (.c (.bool true)) (.t 114)),
  o1 116 (.mov (.t 115)),
  o2 117 116 false (.mov (.t 12)),
  o2 118 116 false (.bin .gtr (.t 117) (.i 0)),
  o2 119 116 false (.mov (.t 118)),
  o2 120 119 true (.fld 0 (.t 13)),
  ox (some 121) (some (119, true)) .R false (.ld false 1 (.t 120)),
  o2 122 119 true (.mov (.t 8)),
  o2 123 119 true (.mov (.t 12)),
  o2 124 119 true (.bin .sub (.t 123) (.i 1)),
  o2 125 119 true (.ixs 4 (.t 122) (.t 124)),
  o2 126 119 true (.fld 0 (.t 125)),
  ox (some 127) (some (119, true)) .R false (.ld false 1 (.t 126)),
  o2 128 119 true (.bin .lss (.t 121) (.t 127)),
  o2 129 119 true (.mov (.t 128)),
  o2 130 129 false (.fld 0 (.t 13)),
  ox (some 131) (some (129, false)) .R false (.ld false 1 (.t 130)),
  o2 132 129 false (.mov (.t 8)),
  o2 133 129 false (.mov (.t 12)),
  o2 134 129 false (.bin .sub (.t 133) (.i 1)),
  o2 135 129 false (.ixs 4 (.t 132) (.t 134)),
  o2 136 129 false (.fld 0 (.t 135)),
  ox (some 137) (some (129, false)) .R false (.ld false 1 (.t 136)),
  o2 138 129 false (.bin .eql (.t 131) (.t 137)),
  o2 139 129 false (.mov (.t 138)),
  o2 140 139 true (.fld 1 (.t 13)),
  ox (some 141) (some (139, true)) .R false (.ld false 1 (.t 140)),
  o2 142 139 true (.mov (.t 8)),
  o2 143 139 true (.mov (.t 12)),
  o2 144 139 true (.bin .sub (.t 143) (.i 1)),
  o2 145 139 true (.ixs 4 (.t 142) (.t 144)),
  o2 146 139 true (.fld 1 (.t 145)),
  ox (some 147) (some (139, true)) .R false (.ld false 1 (.t 146)),
  o2 148 139 true (.bin .leq (.t 141) (.t 147)),
  o2 149 129 false (.pick (.t 139) (.t 148) (.c (.bool false))),
  o2 150 119 true (.pick (.t 129) (.c (.bool true)) (.t 149)),
  o2 151 116 false (.pick (.t 119) (.t 150) (.c (.bool false))),
  o1 152 (.pick (.t 116) (.c (.bool true)) (.t 151))]
def r9_18 : List MOper := q9_18
def r9_19 : List MOper := [o1 6 (.mov (.c (.bool false)))]
def r9_20 : List MOper := [o1 153 (.bin .add (.t 73) (.i 1)),
  o1 73 (.mov (.t 153))]
def b9_2 : MCode := .seq (.reg false r9_16 [7, 8, 9, 71, 72, 73, 74])
 (.seq (.cond 74 (.skip) (.exit 2))
 (.seq (.block 3 (.seq (.reg false r9_17 [7, 8, 9, 12, 13, 71, 72, 73])
 (.seq (.reg true r9_18 [7, 8, 9, 71, 72, 73, 152])
 (.cond 152 (.seq (.reg false r9_19 [6])
 (.ret)) (.skip)))))
 (.reg false r9_20 [7, 8, 9, 71, 72, 73])))
def r9_21 : List MOper := [o1 154 (.mov (.t 9)),
  o1 155 (.mov (.t 8)),
  o1 156 (.len (.t 155)),
  o1 157 (.bin .eql (.t 154) (.t 156)),
  o1 158 (.mov (.t 157)),
  o2 159 158 true (.call 50 []),
  o1 160 (.pick (.t 158) (.t 159) (.c (.bool false))),
  o1 6 (.mov (.t 160))]
def c9 : MCode := .seq (.reg false r9_1 [1, 2, 3])
 (.seq (.seq (.reg false r9_2 [1, 2, 3, 33])
 (.cond 33 (.seq (.reg false r9_3 [6])
 (.ret)) (.skip)))
 (.seq (.reg false r9_4 [1, 2, 3, 7])
 (.seq (.reg false r9_5 [2, 3, 7, 8])
 (.seq (.seq (.reg false r9_6 [2, 3, 7, 8, 48])
 (.cond 48 (.seq (.reg false r9_7 [6])
 (.ret)) (.skip)))
 (.seq (.reg false r9_8 [2, 3, 7, 8, 9])
 (.seq (.seq (.reg false r9_9 [2, 3, 7, 8, 9, 49, 50, 51])
 (.block 0 (.loop [2, 3, 7, 8, 9, 49, 50, 51] b9_1)))
 (.seq (.seq (.reg false r9_15 [7, 8, 9, 71, 72, 73])
 (.block 2 (.loop [7, 8, 9, 71, 72, 73] b9_2)))
 (.seq (.reg false r9_21 [6])
 (.ret)))))))))
def m9 : MFunc := ⟨3, [.tmp 6], c9⟩
def r10_1 : List MOper := [o1 5 (.box (.t 0)),
  o1 10 (.mov (.c (.bool false)))]
def r10_2 : List MOper := [o1 29 (.ld true 2 (.t 5)),
  o1 30 (.mov (.t 1)),
  o1 31 (.mov (.t 2)),
  o1 32 (.call 49 [(.t 29), (.t 30), (.t 31)]),
  o1 33 (.bin .gtr (.t 32) (.i 0)),
  o1 34 (.mov (.t 33)),
  o2 35 34 false (.mov (.t 4)),
  o2 36 34 false (.len (.t 35)),
  o2 37 34 false (.bin .lss (.t 36) (.i 1)),
  o1 38 (.pick (.t 34) (.c (.bool true)) (.t 37)),
  o1 39 (.mov (.t 38)),
  o2 40 39 false (.mov (.t 4)),
  o2 41 39 false (.len (.t 40)),
  o2 42 39 false (.bin .gtr (.t 41) (.i 10)),
  o1 43 (.pick (.t 39) (.c (.bool true)) (.t 42)),
  o1 44 (.mov (.t 43)),
  o2 45 44 false (.fld 0 (.t 5)),
  o2 46 44 false (.ld false 1 (.t 45)),
  o2 47 44 false (.len (.t 46)),
  o2 48 44 false (.bin .eql (.t 47) (.i 0)),
  o1 49 (.pick (.t 44) (.c (.bool true)) (.t 48))]
def r10_3 : List MOper := [o1 50 (.call 50 []),
  o1 10 (.mov (.t 50))]
def r10_4 : List MOper := [o1 52 (.ld true 2 (.t 5)),
  o1 53 (.mov (.t 1)),
  o1 54 (.mov (.t 2)),
  o1 55 (.call 52 [(.t 52), (.t 53), (.t 54)]),
  o1 51 (.mov (.t 55)),
  o1 56 (.ext (.t 51) 0),
  o1 57 (.ext (.t 51) 1),
  o1 11 (.mov (.t 56)),
  o1 12 (.mov (.t 57))]
def r10_5 : List MOper := [o1 58 (.mov (.t 11)),
  o1 59 (.isn (.t 58))]
def r10_6 : List MOper := [o1 60 (.call 50 []),
  o1 10 (.mov (.t 60))]
def r10_7 : List MOper := [o1 61 (.mov (.t 3)),
  o1 62 (.cvt .u64 (.t 61)),
  o1 63 (.mov (.t 11)),
  o1 64 (.len (.t 63)),
  o1 65 (.cvt .u64 (.t 64)),
  o1 66 (.bin .rem (.t 62) (.t 65)),
  o1 67 (.cvt .i64 (.t 66)),
  o1 3 (.mov (.t 67))]
def r10_8 : List MOper := [o1 68 (.mov (.t 11)),
  o1 69 (.mov (.t 3)),
  o1 70 (.ixs 1 (.t 68) (.t 69)),
  o1 71 (.ld false 1 (.t 70)),
  o1 72 (.not (.t 71))]
def r10_9 : List MOper := [o1 73 (.call 50 []),
  o1 10 (.mov (.t 73))]
def r10_10 : List MOper := [o1 74 (.mkmap),
  o1 13 (.mov (.t 74))]
def r10_11 : List MOper := [o1 75 (.ld true 2 (.t 5)),
  o1 76 (.mov (.t 1)),
  o1 77 (.mov (.t 2)),
  o1 78 (.call 51 [(.t 75), (.t 76), (.t 77)]),
  o1 79 (.len (.t 78)),
  o1 80 (.mov (.i 0))]
def r10_12 : List MOper := [o1 81 (.bin .lss (.t 80) (.t 79))]
def r10_13 : List MOper := [o1 82 (.ixs 4 (.t 78) (.t 80)),
  o1 83 (.ld true 4 (.t 82)),
  o1 15 (.alloc [.int .i64 0, .int .i64 0, .int .i64 0, .int .i64 0] []),
  n1 (.st 4 (.t 15) (.t 83))]
def r10_14 : List MOper := [o1 84 (.mov (.t 13)),
  o1 85 (.fld 0 (.t 15)),
  o1 86 (.ld false 1 (.t 85)),
  o1 87 (.fld 1 (.t 15)),
  o1 88 (.ld false 1 (.t 87)),
  o1 89 (.build [.int .i64 0, .int .i64 0] [] [(0, 1, (.t 86)), (1, 1, (.t 88))]),
  o1 90 (.ld true 4 (.t 15)),
  n1 (.mup (some 2) (.t 84) (.t 89) (.t 90))]
def r10_15 : List MOper := [o1 91 (.bin .add (.t 80) (.i 1)),
  o1 80 (.mov (.t 91))]
def b10_1 : MCode := .seq (.reg false r10_12 [1, 2, 3, 4, 5, 13, 78, 79, 80, 81])
 (.seq (.cond 81 (.skip) (.exit 0))
 (.seq (.block 1 (.seq (.reg false r10_13 [1, 2, 3, 4, 5, 13, 15, 78, 79, 80])
 (.reg false r10_14 [1, 2, 3, 4, 5, 13, 78, 79, 80])))
 (.reg false r10_15 [1, 2, 3, 4, 5, 13, 78, 79, 80])))
def r10_16 : List MOper := [o1 92 (.mkmap),
  o1 16 (.mov (.t 92))]
def r10_17 : List MOper := [o1 17 (.tnil 1)]
def r10_18 : List MOper := [o1 18 (.mov (.i 0))]
def r10_19 : List MOper := [o1 93 (.mov (.i 0))]
def r10_20 : List MOper := [o1 94 (.bin .lss (.t 93) (.i 1601))]
def r10_21 : List MOper := [o1 95 (.mov (.t 93)),
  o1 19 (.mov (.t 95))]
def r10_22 : List MOper := [o1 96 (.mov (.t 19)),
  o1 97 (.mov (.t 4)),
  o1 98 (.len (.t 97)),
  o1 99 (.bin .rem (.t 96) (.t 98)),
  o1 20 (.mov (.t 99))]
def r10_23 : List MOper := [o1 100 (.mov (.t 16)),
  o1 101 (.mov (.t 3)),
  o1 102 (.mov (.t 18)),
  o1 103 (.mov (.t 20)),
  o1 104 (.build [.int .i64 0, .int .i64 0, .int .i64 0] [] [(0, 1, (.t 101)), (1, 1, (.t 102)), (2, 1, (.t 103))]),
  o1 105 (.lkp (some 3) (.int .i64 0) (.t 100) (.t 104)),
  o1 21 (.mov (.t 105))]
def r10_24 : List MOper := [o1 106 (.mov (.t 21)),
  o1 107 (.bin .gtr (.t 106) (.i 0))]
def r10_25 : List MOper := [o1 108 (.mov (.t 1)),
  o1 109 (.mov (.t 17)),
  o1 110 (.mov (.t 21)),
  o1 111 (.bin .sub (.t 110) (.i 1)),
  o1 112 (.slc 1 (.t 109) (some (.t 111)) none),
  o1 113 (.call 59 [(.t 108), (.t 112)]),
  o1 114 (.not (.t 113)),
  o1 115 (.mov (.t 114)),
  o2 116 115 false (.mov (.t 2)),
  o2 117 115 false (.mov (.t 17)),
  o2 118 115 false (.mov (.t 21)),
  o2 119 115 false (.bin .sub (.t 118) (.i 1)),
  o2 120 115 false (.slc 1 (.t 117) (some (.t 119)) none),
  o2 121 115 false (.call 59 [(.t 116), (.t 120)]),
  o1 122 (.pick (.t 115) (.c (.bool true)) (.t 121)),
  o1 123 (.mov (.t 122)),
  o2 124 123 true (.call 50 []),
  o1 125 (.pick (.t 123) (.t 124) (.c (.bool false))),
  o1 10 (.mov (.t 125))]
def r10_26 : List MOper := [o1 126 (.mov (.t 16)),
  o1 127 (.mov (.t 3)),
  o1 128 (.mov (.t 18)),
  o1 129 (.mov (.t 20)),
  o1 130 (.build [.int .i64 0, .int .i64 0, .int .i64 0] [] [(0, 1, (.t 127)), (1, 1, (.t 128)), (2, 1, (.t 129))]),
  o1 131 (.mov (.t 17)),
  o1 132 (.len (.t 131)),
  o1 133 (.bin .add (.t 132) (.i 1)),
  n1 (.mup (some 3) (.t 126) (.t 130) (.t 133))]
def r10_27 : List MOper := [o1 134 (.mov (.t 17)),
  o1 135 (.mov (.t 3)),
  o1 136 (.bsl false 1 [(.t 135)]),
  o1 137 (.app 1 (.t 134) (.t 136)),
  o1 17 (.mov (.t 137))]
def r10_28 : List MOper := [o1 138 (.fld 1 (.t 5)),
  o1 139 (.ld false 1 (.t 138)),
  o1 140 (.mov (.t 3)),
  o1 141 (.ixs 1 (.t 139) (.t 140)),
  o1 142 (.ld false 1 (.t 141)),
  o1 22 (.mov (.t 142))]
def r10_29 : List MOper := [o1 143 (.ld true 2 (.t 5)),
  o1 144 (.mov (.t 2)),
  o1 145 (.mov (.t 3)),
  o1 146 (.mov (.t 18)),
  o1 147 (.call 54 [(.t 143), (.t 144), (.t 145), (.t 146)]),
  o1 23 (.mov (.t 147))]
def r10_30 : List MOper := [o1 148 (.mov (.t 22)),
  o1 149 (.len (.t 148)),
  o1 150 (.bin .eql (.t 149) (.i 0))]
def r10_31 : List MOper := [o1 151 (.fld 0 (.t 5)),
  o1 152 (.ld false 1 (.t 151)),
  o1 153 (.mov (.t 3)),
  o1 154 (.ixs 1 (.t 152) (.t 153)),
  o1 155 (.ld false 1 (.t 154)),
  o1 156 (.bin .eql (.t 155) (.i 0)),
  o1 157 (.mov (.t 156)),
  o2 158 157 true (.call 50 []),
  o1 159 (.pick (.t 157) (.t 158) (.c (.bool false))),
  o1 10 (.mov (.t 159))]
def r10_32 : List MOper := [o1 160 (.mov (.t 22)),
  o1 161 (.mov (.t 4)),
  o1 162 (.mov (.t 20)),
  o1 163 (.ixs 1 (.t 161) (.t 162)),
  o1 164 (.ld false 1 (.t 163)),
  o1 165 (.cvt .u64 (.t 164)),
  o1 166 (.mov (.t 22)),
  o1 167 (.len (.t 166)),
  o1 168 (.cvt .u64 (.t 167)),
  o1 169 (.bin .rem (.t 165) (.t 168)),
  o1 170 (.cvt .i64 (.t 169)),
  o1 171 (.ixs 1 (.t 160) (.t 170)),
  o1 172 (.ld false 1 (.t 171)),
  o1 24 (.mov (.t 172))]
def r10_33 : List MOper := [o1 173 (.fld 0 (.t 5)),
  o1 174 (.ld false 1 (.t 173)),
  o1 175 (.mov (.t 3)),
  o1 176 (.ixs 1 (.t 174) (.t 175)),
  o1 177 (.ld false 1 (.t 176)),
  o1 178 (.bin .eql (.t 177) (.i 1))]
def r10_34 : List MOper := [o1 179 (.mov (.t 13)),
  o1 180 (.mov (.t 3)),
  o1 181 (.mov (.t 18)),
  o1 182 (.build [.int .i64 0, .int .i64 0] [] [(0, 1, (.t 180)), (1, 1, (.t 181))]),
  o1 183 (.lkp (some 2) (.agg [.int .i64 0, .int .i64 0, .int .i64 0, .int .i64 0]) (.t 179) (.t 182)),
  o1 25 (.alloc [.int .i64 0, .int .i64 0, .int .i64 0, .int .i64 0] []),
  n1 (.st 4 (.t 25) (.t 183))]
def r10_35 : List MOper := [o1 26 (.mov (.c (.bool false)))]
def r10_36 : List MOper := [o1 184 (.mov (.t 22)),
  o1 185 (.len (.t 184)),
  o1 186 (.mov (.i 0))]
def r10_37 : List MOper := [o1 187 (.bin .lss (.t 186) (.t 185))]
def r10_38 : List MOper := [o1 188 (.ixs 1 (.t 184) (.t 186)),
  o1 189 (.ld false 1 (.t 188)),
  o1 28 (.mov (.t 189))]
def r10_39 : List MOper := [o1 190 (.mov (.t 26)),
  o1 191 (.mov (.t 190)),
  o2 192 191 false (.mov (.t 28)),
  o2 193 191 false (.fld 2 (.t 25)),
  o2 194 191 false (.ld false 1 (.t 193)),
  o2 195 191 false (.bin .eql (.t 192) (.t 194)),
  o1 196 (.pick (.t 191) (.c (.bool true)) (.t 195)),
  o1 26 (.mov (.t 196))]
def r10_40 : List MOper := [o1 197 (.bin .add (.t 186) (.i 1)),
  o1 186 (.mov (.t 197))]
def b10_3 : MCode := .seq (.reg false r10_37 [1, 2, 3, 4, 5, 13, 16, 17, 23, 25, 26, 93, 184, 185, 186, 187])
 (.seq (.cond 187 (.skip) (.exit 4))
 (.seq (.block 5 (.seq (.reg false r10_38 [1, 2, 3, 4, 5, 13, 16, 17, 23, 25, 26, 28, 93, 184, 185, 186])
 (.reg false r10_39 [1, 2, 3, 4, 5, 13, 16, 17, 23, 25, 26, 93, 184, 185, 186])))
 (.reg false r10_40 [1, 2, 3, 4, 5, 13, 16, 17, 23, 25, 26, 93, 184, 185, 186])))
def r10_41 : List MOper := [o1 198 (.mov (.t 26)),
  o1 199 (.not (.t 198)),
  o1 200 (.mov (.t 199)),
  o2 201 200 false (.fld 0 (.t 25)),
  o2 202 200 false (.ld false 1 (.t 201)),
  o2 203 200 false (.mov (.t 3)),
  o2 204 200 false (.bin .neq (.t 202) (.t 203)),
  o1 205 (.pick (.t 200) (.c (.bool true)) (.t 204))]
def r10_42 : List MOper := [o1 10 (.mov (.c (.bool false)))]
def r10_43 : List MOper := [o1 206 (.fld 2 (.t 25)),
  o1 207 (.ld false 1 (.t 206)),
  o1 24 (.mov (.t 207))]
def r10_44 : List MOper := [o1 208 (.mov (.t 24)),
  o1 209 (.mov (.t 23)),
  o1 3 (.mov (.t 208)),
  o1 18 (.mov (.t 209))]
def r10_45 : List MOper := [o1 210 (.bin .add (.t 93) (.i 1)),
  o1 93 (.mov (.t 210))]
def b10_2 : MCode := .seq (.reg false r10_20 [1, 2, 3, 4, 5, 13, 16, 17, 18, 93, 94])
 (.seq (.cond 94 (.skip) (.exit 2))
 (.seq (.block 3 (.seq (.reg false r10_21 [1, 2, 3, 4, 5, 13, 16, 17, 18, 19, 93])
 (.seq (.reg false r10_22 [1, 2, 3, 4, 5, 13, 16, 17, 18, 20, 93])
 (.seq (.seq (.reg false r10_23 [1, 2, 3, 4, 5, 13, 16, 17, 18, 20, 21, 93])
 (.seq (.reg false r10_24 [1, 2, 3, 4, 5, 13, 16, 17, 18, 20, 21, 93, 107])
 (.cond 107 (.seq (.reg false r10_25 [10])
 (.ret)) (.skip))))
 (.seq (.reg false r10_26 [1, 2, 3, 4, 5, 13, 16, 17, 18, 20, 93])
 (.seq (.reg false r10_27 [1, 2, 3, 4, 5, 13, 16, 17, 18, 20, 93])
 (.seq (.reg false r10_28 [1, 2, 3, 4, 5, 13, 16, 17, 18, 20, 22, 93])
 (.seq (.reg false r10_29 [1, 2, 3, 4, 5, 13, 16, 17, 18, 20, 22, 23, 93])
 (.seq (.seq (.reg false r10_30 [1, 2, 3, 4, 5, 13, 16, 17, 18, 20, 22, 23, 93, 150])
 (.cond 150 (.seq (.reg false r10_31 [10])
 (.ret)) (.skip)))
 (.seq (.reg false r10_32 [1, 2, 3, 4, 5, 13, 16, 17, 18, 22, 23, 24, 93])
 (.seq (.seq (.reg false r10_33 [1, 2, 3, 4, 5, 13, 16, 17, 18, 22, 23, 24, 93, 178])
 (.cond 178 (.seq (.reg false r10_34 [1, 2, 3, 4, 5, 13, 16, 17, 22, 23, 25, 93])
 (.seq (.reg false r10_35 [1, 2, 3, 4, 5, 13, 16, 17, 22, 23, 25, 26, 93])
 (.seq (.seq (.reg false r10_36 [1, 2, 3, 4, 5, 13, 16, 17, 23, 25, 26, 93, 184, 185, 186])
 (.block 4 (.loop [1, 2, 3, 4, 5, 13, 16, 17, 23, 25, 26, 93, 184, 185, 186] b10_3)))
 (.seq (.seq (.reg false r10_41 [1, 2, 4, 5, 13, 16, 17, 23, 25, 93, 205])
 (.cond 205 (.seq (.reg false r10_42 [10])
 (.ret)) (.skip)))
 (.reg false r10_43 [1, 2, 4, 5, 13, 16, 17, 23, 24, 93]))))) (.skip)))
 (.reg false r10_44 [1, 2, 3, 4, 5, 13, 16, 17, 18, 93]))))))))))))
 (.reg false r10_45 [1, 2, 3, 4, 5, 13, 16, 17, 18, 93])))
def r10_46 : List MOper := [o1 10 (.mov (.c (.bool false)))]
def c10 : MCode := .seq (.reg false r10_1 [1, 2, 3, 4, 5])
 (.seq (.seq (.reg false r10_2 [1, 2, 3, 4, 5, 49])
 (.cond 49 (.seq (.reg false r10_3 [10])
 (.ret)) (.skip)))
 (.seq (.reg false r10_4 [1, 2, 3, 4, 5, 11])
 (.seq (.seq (.reg false r10_5 [1, 2, 3, 4, 5, 11, 59])
 (.cond 59 (.seq (.reg false r10_6 [10])
 (.ret)) (.skip)))
 (.seq (.reg false r10_7 [1, 2, 3, 4, 5, 11])
 (.seq (.seq (.reg false r10_8 [1, 2, 3, 4, 5, 72])
 (.cond 72 (.seq (.reg false r10_9 [10])
 (.ret)) (.skip)))
 (.seq (.reg false r10_10 [1, 2, 3, 4, 5, 13])
 (.seq (.seq (.reg false r10_11 [1, 2, 3, 4, 5, 13, 78, 79, 80])
 (.block 0 (.loop [1, 2, 3, 4, 5, 13, 78, 79, 80] b10_1)))
 (.seq (.reg false r10_16 [1, 2, 3, 4, 5, 13, 16])
 (.seq (.reg false r10_17 [1, 2, 3, 4, 5, 13, 16, 17])
 (.seq (.reg false r10_18 [1, 2, 3, 4, 5, 13, 16, 17, 18])
 (.seq (.seq (.reg false r10_19 [1, 2, 3, 4, 5, 13, 16, 17, 18, 93])
 (.block 2 (.loop [1, 2, 3, 4, 5, 13, 16, 17, 18, 93] b10_2)))
 (.seq (.reg false r10_46 [10])
 (.ret)))))))))))))
def m10 : MFunc := ⟨3, [.tmp 10], c10⟩
def r11_1 : List MOper := [o1 6 (.box (.t 0)),
  o1 12 (.mov (.c (.bool false)))]
def r11_2 : List MOper := [o1 13 (.ld true 2 (.t 6)),
  o1 14 (.mov (.t 1)),
  o1 15 (.call 28 [(.t 13), (.t 14)]),
  o1 16 (.bin .gtr (.t 15) (.i 0)),
  o1 17 (.mov (.t 16)),
  o2 18 17 false (.mov (.t 5)),
  o2 19 17 false (.mov (.t 4)),
  o2 20 17 false (.call 60 [(.t 18), (.t 19), (.c (.fz .isnil 1 []))]),
  o2 21 17 false (.not (.t 20)),
  o1 22 (.pick (.t 17) (.c (.bool true)) (.t 21)),
  o1 23 (.mov (.t 22)),
  o2 24 23 false (.mov (.t 3)),
  o2 25 23 false (.len (.t 24)),
  o2 26 23 false (.bin .gtr (.t 25) (.i 300)),
  o1 27 (.pick (.t 23) (.c (.bool true)) (.t 26))]
def r11_3 : List MOper := [o1 28 (.call 61 []),
  o1 12 (.mov (.t 28))]
def q11_4 : List MOper := [ox (some 29) none .R false (.ld true 2 (.t 6)),
  o1 30 (.mov (.t 1)),
  o1 31 (.mov (.t 2)),
  o1 32 (.mov (.t 3)),
  o1 33 (.mov (.t 4)),
  ox (some 34) none .R false (.call 62 [(.t 29), (.t 30), (.t 31), (.t 32), (.t 33)]),
  ox (some 35) none .R false (.ld true 2 (.t 6)),
  o1 36 (.mov (.t 1)),
  o1 37 (.mov (.t 2)),
  o1 38 (.mov (.t 3)),
  o1 39 (.mov (.t 4)),
  ox (some 40) none .R false (.call 63 [(.t 35), (.t 36), (.t 37), (.t 38), (.t 39)]),
  o1 41 (.beq false (.t 34) (.t 40)),
  o1 42 (.mov (.t 41)),
  o2 43 42 true (.mov (.t 5)),
  o2 44 42 true (.mov (.t 1)),
  o2 45 42 true (.mov (.t 4)),
  ox (some 46) (some (42, true)) .R false (.call 64 [(.t 43), (.t 44), (.t 45)]),
  o2 47 42 true (.mov (.t 5)),
  o2 48 42 true (.mov (.t 1)),
  o2 49 42 true (.mov (.t 4)),
  ox (some 50) (some (42, true)) .R false (.call 65 [(.t 47), (.t 48), (.t 49)]),
  o2 51 42 true (.beq false (.t 46) (.t 50)),
  o1 52 (.pick (.t 42) (.t 51) (.c (.bool false))),
  o1 53 (.mov (.t 52)),
  ox (some 54) (some (53, true)) .R false (.call 61 []),
  o1 55 (.pick (.t 53) (.t 54) (.c (.bool false))),
  o1 12 (.mov (.t 55))]
def r11_4 : List MOper := q11_4
def c11 : MCode := .seq (.reg false r11_1 [1, 2, 3, 4, 5, 6])
 (.seq (.seq (.reg false r11_2 [1, 2, 3, 4, 5, 6, 27])
 (.cond 27 (.seq (.reg false r11_3 [12])
 (.ret)) (.skip)))
 (.seq (.reg true r11_4 [12])
 (.ret)))
def m11 : MFunc := ⟨3, [.tmp 12], c11⟩
def r12_1 : List MOper := [o1 2 (.box (.t 0)),
  o1 4 (.mov (.c (.bool false)))]
def r12_2 : List MOper := [o1 7 (.ld true 2 (.t 2)),
  o1 8 (.call 49 [(.t 7), (.c (.fz .isnil 1 [])), (.c (.fz .isnil 1 []))]),
  o1 9 (.bin .gtr (.t 8) (.i 0)),
  o1 10 (.mov (.t 9)),
  o2 11 10 false (.mov (.t 1)),
  o2 12 10 false (.len (.t 11)),
  o2 13 10 false (.bin .gtr (.t 12) (.i 300)),
  o1 14 (.pick (.t 10) (.c (.bool true)) (.t 13)),
  o1 15 (.mov (.t 14)),
  o2 16 15 false (.ld true 2 (.t 2)),
  o2 17 15 false (.call 35 [(.t 16)]),
  o2 18 15 false (.bin .neq (.t 17) (.i 0)),
  o1 19 (.pick (.t 15) (.c (.bool true)) (.t 18))]
def r12_3 : List MOper := [o1 20 (.call 66 []),
  o1 4 (.mov (.t 20))]
def r12_4 : List MOper := [o1 21 (.fld 0 (.t 2)),
  o1 22 (.ld false 1 (.t 21)),
  o1 23 (.len (.t 22)),
  o1 24 (.mksl 1 (.bool false) (.t 23)),
  o1 5 (.mov (.t 24))]
def r12_5 : List MOper := [o1 25 (.mov (.t 5)),
  o1 26 (.len (.t 25)),
  o1 27 (.mov (.i 0))]
def r12_6 : List MOper := [o1 28 (.bin .lss (.t 27) (.t 26))]
def r12_7 : List MOper := [o1 29 (.mov (.t 27)),
  o1 6 (.mov (.t 29))]
def r12_8 : List MOper := [o1 30 (.mov (.t 5)),
  o1 31 (.mov (.t 6)),
  o1 32 (.ixs 1 (.t 30) (.t 31)),
  n1 (.st 1 (.t 32) (.c (.bool true)))]
def r12_9 : List MOper := [o1 33 (.bin .add (.t 27) (.i 1)),
  o1 27 (.mov (.t 33))]
def b12_1 : MCode := .seq (.reg false r12_6 [1, 2, 5, 26, 27, 28])
 (.seq (.cond 28 (.skip) (.exit 0))
 (.seq (.block 1 (.seq (.reg false r12_7 [1, 2, 5, 6, 26, 27])
 (.reg false r12_8 [1, 2, 5, 26, 27])))
 (.reg false r12_9 [1, 2, 5, 26, 27])))
def q12_10 : List MOper := [ox (some 34) none .R false (.ld true 2 (.t 2)),
  o1 35 (.mov (.t 1)),
  o1 36 (.bsl false 1 [(.t 35)]),
  ox (some 37) none .R false (.call 58 [(.t 34), (.c (.fz .isnil 1 [])), (.t 36)]),
  ox (some 38) none .R false (.ld true 2 (.t 2)),
  o1 39 (.mov (.t 1)),
  ox (some 40) none .R false (.call 37 [(.t 38), (.i 1), (.t 39)]),
  ox (some 41) none .R false (.call 32 [(.t 37), (.t 40)]),
  o1 42 (.mov (.t 41)),
  ox (some 43) (some (42, true)) .R false (.ld true 2 (.t 2)),
  ox (some 44) (some (42, true)) .R false (.call 58 [(.t 43), (.c (.fz .isnil 1 [])), (.c (.fz .isnil 1 []))]),
  ox (some 45) (some (42, true)) .R false (.ld true 2 (.t 2)),
  o2 46 42 true (.mov (.t 5)),
  ox (some 47) (some (42, true)) .R false (.call 67 [(.t 45), (.i 1), (.t 46)]),
  ox (some 48) (some (42, true)) .R false (.call 32 [(.t 44), (.t 47)]),
  o1 49 (.pick (.t 42) (.t 48) (.c (.bool false))),
  o1 50 (.mov (.t 49)),
  ox (some 51) (some (50, true)) .R false (.ld true 2 (.t 2)),
  o2 52 50 true (.mov (.t 5)),
  o2 53 50 true (.bsl false 1 [(.t 52)]),
  o2 54 50 true (.mov (.t 1)),
  o2 55 50 true (.bsl false 1 [(.t 54)]),
  ox (some 56) (some (50, true)) .R false (.call 58 [(.t 51), (.t 53), (.t 55)]),
  ox (some 57) (some (50, true)) .R false (.ld true 2 (.t 2)),
  o2 58 50 true (.mov (.t 1)),
  ox (some 59) (some (50, true)) .R false (.call 37 [(.t 57), (.i 1), (.t 58)]),
  ox (some 60) (some (50, true)) .R false (.call 32 [(.t 56), (.t 59)]),
  o1 61 (.pick (.t 50) (.t 60) (.c (.bool false))),
  o1 62 (.mov (.t 61)),
  ox (some 63) (some (62, true)) .R false (.call 66 []),
  o1 64 (.pick (.t 62) (.t 63) (.c (.bool false))),
  o1 4 (.mov (.t 64))]
def r12_10 : List MOper := q12_10
def c12 : MCode := .seq (.reg false r12_1 [1, 2])
 (.seq (.seq (.reg false r12_2 [1, 2, 19])
 (.cond 19 (.seq (.reg false r12_3 [4])
 (.ret)) (.skip)))
 (.seq (.reg false r12_4 [1, 2, 5])
 (.seq (.seq (.reg false r12_5 [1, 2, 5, 26, 27])
 (.block 0 (.loop [1, 2, 5, 26, 27] b12_1)))
 (.seq (.frzv 5 (.reg true r12_10 [4]))
 (.ret)))))
def m12 : MFunc := ⟨3, [.tmp 4], c12⟩
def r13_1 : List MOper := [o1 4 (.box (.t 0)),
  o1 8 (.mov (.c (.bool false)))]
def r13_2 : List MOper := [o1 13 (.ld true 2 (.t 4)),
  o1 14 (.mov (.t 2)),
  o1 15 (.call 34 [(.t 13), (.t 14)]),
  o1 16 (.not (.t 15)),
  o1 17 (.mov (.t 16)),
  o2 18 17 false (.mov (.t 3)),
  o2 19 17 false (.len (.t 18)),
  o2 20 17 false (.bin .gtr (.t 19) (.i 300)),
  o1 21 (.pick (.t 17) (.c (.bool true)) (.t 20)),
  o1 22 (.mov (.t 21)),
  o2 23 22 false (.ld true 2 (.t 4)),
  o2 24 22 false (.call 35 [(.t 23)]),
  o2 25 22 false (.bin .neq (.t 24) (.i 0)),
  o1 26 (.pick (.t 22) (.c (.bool true)) (.t 25))]
def r13_3 : List MOper := [o1 27 (.call 36 []),
  o1 8 (.mov (.t 27))]
def r13_4 : List MOper := [o1 28 (.mov (.t 1)),
  o1 29 (.cvt .u64 (.t 28)),
  o1 30 (.bin .rem (.t 29) (.c (.int .u64 2))),
  o1 31 (.cvt .i64 (.t 30)),
  o1 1 (.mov (.t 31))]
def r13_5 : List MOper := [o1 32 (.ld true 2 (.t 4)),
  o1 33 (.call 41 [(.t 32), (.c (.fz .isnil 1 []))]),
  o1 9 (.mov (.t 33))]
def q13_6 : List MOper := [ox (some 34) none .R false (.ld true 2 (.t 4)),
  o1 35 (.mov (.t 1)),
  o1 36 (.mov (.t 2)),
  ox (some 37) none .R false (.call 37 [(.t 34), (.t 35), (.t 36)]),
  ox (some 38) none .R false (.ld true 2 (.t 4)),
  o1 39 (.mov (.t 1)),
  ox (some 40) none .R false (.ld true 2 (.t 4)),
  o1 41 (.mov (.t 2)),
  o1 42 (.mov (.t 3)),
  ox (some 43) none .R false (.call 68 [(.t 40), (.t 41), (.t 42)]),
  ox (some 44) none .R false (.call 37 [(.t 38), (.t 39), (.t 43)]),
  o1 10 (.mov (.t 37)),
  o1 11 (.mov (.t 44))]
def r13_6 : List MOper := q13_6
def r13_7 : List MOper := [o1 45 (.mov (.t 10)),
  o1 46 (.len (.t 45)),
  o1 47 (.fld 0 (.t 4)),
  o1 48 (.ld false 1 (.t 47)),
  o1 49 (.len (.t 48)),
  o1 50 (.bin .neq (.t 46) (.t 49)),
  o1 51 (.mov (.t 50)),
  o2 52 51 false (.mov (.t 11)),
  o2 53 51 false (.len (.t 52)),
  o2 54 51 false (.mov (.t 10)),
  o2 55 51 false (.len (.t 54)),
  o2 56 51 false (.bin .neq (.t 53) (.t 55)),
  o1 57 (.pick (.t 51) (.c (.bool true)) (.t 56))]
def r13_8 : List MOper := [o1 8 (.mov (.c (.bool false)))]
def r13_9 : List MOper := [o1 58 (.mov (.t 10)),
  o1 59 (.len (.t 58)),
  o1 60 (.mov (.i 0))]
def r13_10 : List MOper := [o1 61 (.bin .lss (.t 60) (.t 59))]
def r13_11 : List MOper := [o1 62 (.mov (.t 60)),
  o1 12 (.mov (.t 62))]
def r13_12 : List MOper := [o1 63 (.mov (.t 10)),
  o1 64 (.mov (.t 12)),
  o1 65 (.ixs 1 (.t 63) (.t 64)),
  o1 66 (.ld false 1 (.t 65)),
  o1 67 (.mov (.t 66)),
  o2 68 67 true (.mov (.t 11)),
  o2 69 67 true (.mov (.t 12)),
  o2 70 67 true (.ixs 1 (.t 68) (.t 69)),
  o2 71 67 true (.ld false 1 (.t 70)),
  o2 72 67 true (.not (.t 71)),
  o1 73 (.pick (.t 67) (.t 72) (.c (.bool false)))]
def r13_13 : List MOper := [o1 8 (.mov (.c (.bool false)))]
def r13_14 : List MOper := [o1 74 (.bin .add (.t 60) (.i 1)),
  o1 60 (.mov (.t 74))]
def b13_1 : MCode := .seq (.reg false r13_10 [1, 2, 4, 9, 10, 11, 59, 60, 61])
 (.seq (.cond 61 (.skip) (.exit 0))
 (.seq (.block 1 (.seq (.reg false r13_11 [1, 2, 4, 9, 10, 11, 12, 59, 60])
 (.seq (.reg false r13_12 [1, 2, 4, 9, 10, 11, 59, 60, 73])
 (.cond 73 (.seq (.reg false r13_13 [8])
 (.ret)) (.skip)))))
 (.reg false r13_14 [1, 2, 4, 9, 10, 11, 59, 60])))
def q13_15 : List MOper := [ox (some 75) none .R false (.ld true 2 (.t 4)),
  o1 76 (.mov (.t 1)),
  o1 77 (.mov (.t 9)),
  ox (some 78) none .R false (.call 37 [(.t 75), (.t 76), (.t 77)]),
  ox (some 79) none .R false (.ld true 2 (.t 4)),
  o1 80 (.mov (.t 1)),
  o1 81 (.mov (.t 9)),
  ox (some 82) none .R false (.call 42 [(.t 79), (.t 80), (.t 81)]),
  ox (some 83) none .R false (.call 32 [(.t 78), (.t 82)]),
  o1 84 (.mov (.t 83)),
  ox (some 85) (some (84, true)) .R false (.ld true 2 (.t 4)),
  o2 86 84 true (.mov (.t 1)),
  o2 87 84 true (.mov (.t 9)),
  ox (some 88) (some (84, true)) .R false (.call 38 [(.t 85), (.t 86), (.t 87)]),
  ox (some 89) (some (84, true)) .R false (.ld true 2 (.t 4)),
  o2 90 84 true (.mov (.t 1)),
  o2 91 84 true (.mov (.t 9)),
  ox (some 92) (some (84, true)) .R false (.call 42 [(.t 89), (.t 90), (.t 91)]),
  ox (some 93) (some (84, true)) .R false (.call 32 [(.t 88), (.t 92)]),
  o1 94 (.pick (.t 84) (.t 93) (.c (.bool false))),
  o1 95 (.mov (.t 94)),
  ox (some 96) (some (95, true)) .R false (.ld true 2 (.t 4)),
  o2 97 95 true (.mov (.t 1)),
  ox (some 98) (some (95, true)) .R false (.ld true 2 (.t 4)),
  o2 99 95 true (.mov (.t 1)),
  o2 100 95 true (.mov (.t 2)),
  ox (some 101) (some (95, true)) .R false (.call 70 [(.t 98), (.t 99), (.t 100)]),
  ox (some 102) (some (95, true)) .R false (.call 45 [(.t 96), (.t 97), (.t 101)]),
  ox (some 103) (some (95, true)) .R false (.call 69 [(.t 102)]),
  o2 104 95 true (.bin .eql (.t 103) (.i 0)),
  o1 105 (.pick (.t 95) (.t 104) (.c (.bool false))),
  o1 106 (.mov (.t 105)),
  ox (some 107) (some (106, true)) .R false (.call 36 []),
  o1 108 (.pick (.t 106) (.t 107) (.c (.bool false))),
  o1 8 (.mov (.t 108))]
def r13_15 : List MOper := q13_15
def c13 : MCode := .seq (.reg false r13_1 [1, 2, 3, 4])
 (.seq (.seq (.reg false r13_2 [1, 2, 3, 4, 26])
 (.cond 26 (.seq (.reg false r13_3 [8])
 (.ret)) (.skip)))
 (.seq (.reg false r13_4 [1, 2, 3, 4])
 (.seq (.reg false r13_5 [1, 2, 3, 4, 9])
 (.seq (.reg true r13_6 [1, 2, 4, 9, 10, 11])
 (.seq (.seq (.reg false r13_7 [1, 2, 4, 9, 10, 11, 57])
 (.cond 57 (.seq (.reg false r13_8 [8])
 (.ret)) (.skip)))
 (.seq (.seq (.reg false r13_9 [1, 2, 4, 9, 10, 11, 59, 60])
 (.block 0 (.loop [1, 2, 4, 9, 10, 11, 59, 60] b13_1)))
 (.seq (.reg true r13_15 [8])
 (.ret))))))))
def m13 : MFunc := ⟨3, [.tmp 8], c13⟩
def r14_1 : List MOper := [o1 3 (.box (.t 0)),
  o1 6 (.mov (.c (.bool false)))]
def r14_2 : List MOper := [o1 11 (.ld true 2 (.t 3)),
  o1 12 (.mov (.t 2)),
  o1 13 (.call 34 [(.t 11), (.t 12)]),
  o1 14 (.not (.t 13)),
  o1 15 (.mov (.t 14)),
  o2 16 15 false (.ld true 2 (.t 3)),
  o2 17 15 false (.call 35 [(.t 16)]),
  o2 18 15 false (.bin .neq (.t 17) (.i 0)),
  o1 19 (.pick (.t 15) (.c (.bool true)) (.t 18))]
def r14_3 : List MOper := [o1 20 (.call 36 []),
  o1 6 (.mov (.t 20))]
def r14_4 : List MOper := [o1 21 (.mov (.t 1)),
  o1 22 (.cvt .u64 (.t 21)),
  o1 23 (.bin .rem (.t 22) (.c (.int .u64 2))),
  o1 24 (.cvt .i64 (.t 23)),
  o1 1 (.mov (.t 24))]
def r14_5 : List MOper := [o1 25 (.ld true 2 (.t 3)),
  o1 26 (.mov (.t 1)),
  o1 27 (.mov (.t 2)),
  o1 28 (.call 37 [(.t 25), (.t 26), (.t 27)]),
  o1 7 (.mov (.t 28))]
def q14_6 : List MOper := [ox (some 29) none .R false (.ld true 2 (.t 3)),
  o1 30 (.mov (.t 1)),
  ox (some 31) none .R false (.ld true 2 (.t 3)),
  o1 32 (.mov (.t 1)),
  o1 33 (.mov (.t 2)),
  ox (some 34) none .R false (.call 70 [(.t 31), (.t 32), (.t 33)]),
  ox (some 35) none .R false (.call 45 [(.t 29), (.t 30), (.t 34)]),
  ox (some 8) none .A false (.alloc [.fz .isnil 1 [], .fz .isnil 1 []] []),
  ox none none .L false (.st 2 (.t 8) (.t 35))]
def r14_6 : List MOper := q14_6
def r14_7 : List MOper := [o1 36 (.mov (.t 7)),
  o1 37 (.len (.t 36)),
  o1 38 (.fld 0 (.t 3)),
  o1 39 (.ld false 1 (.t 38)),
  o1 40 (.len (.t 39)),
  o1 41 (.bin .neq (.t 37) (.t 40)),
  o1 42 (.mov (.t 41)),
  o2 43 42 false (.fld 1 (.t 8)),
  o2 44 42 false (.ld false 1 (.t 43)),
  o2 45 42 false (.len (.t 44)),
  o2 46 42 false (.mov (.t 7)),
  o2 47 42 false (.len (.t 46)),
  o2 48 42 false (.bin .neq (.t 45) (.t 47)),
  o1 49 (.pick (.t 42) (.c (.bool true)) (.t 48)),
  o1 50 (.mov (.t 49)),
  o2 51 50 false (.ld true 2 (.t 8)),
  o2 52 50 false (.mov (.t 7)),
  o2 53 50 false (.call 47 [(.t 51), (.t 52)]),
  o2 54 50 false (.mov (.t 7)),
  o2 55 50 false (.call 32 [(.t 53), (.t 54)]),
  o2 56 50 false (.not (.t 55)),
  o1 57 (.pick (.t 50) (.c (.bool true)) (.t 56))]
def r14_8 : List MOper := [o1 6 (.mov (.c (.bool false)))]
def r14_9 : List MOper := [o1 58 (.mov (.t 7)),
  o1 59 (.len (.t 58)),
  o1 60 (.mksl 1 (.int .i64 0) (.t 59)),
  o1 9 (.mov (.t 60))]
def r14_10 : List MOper := [o1 61 (.mov (.t 9)),
  o1 62 (.len (.t 61)),
  o1 63 (.mov (.i 0))]
def r14_11 : List MOper := [o1 64 (.bin .lss (.t 63) (.t 62))]
def r14_12 : List MOper := [o1 65 (.mov (.t 63)),
  o1 10 (.mov (.t 65))]
def r14_13 : List MOper := [o1 66 (.mov (.t 7)),
  o1 67 (.mov (.t 10)),
  o1 68 (.ixs 1 (.t 66) (.t 67)),
  o1 69 (.ld false 1 (.t 68)),
  o1 70 (.mov (.t 69)),
  o2 71 70 true (.fld 0 (.t 3)),
  o2 72 70 true (.ld false 1 (.t 71)),
  o2 73 70 true (.mov (.t 10)),
  o2 74 70 true (.ixs 1 (.t 72) (.t 73)),
  o2 75 70 true (.ld false 1 (.t 74)),
  o2 76 70 true (.mov (.t 1)),
  o2 77 70 true (.bin .eql (.t 75) (.t 76)),
  o1 78 (.pick (.t 70) (.t 77) (.c (.bool false))),
  o1 79 (.mov (.t 78)),
  o2 80 79 true (.fld 1 (.t 8)),
  o2 81 79 true (.ld false 1 (.t 80)),
  o2 82 79 true (.mov (.t 10)),
  o2 83 79 true (.ixs 1 (.t 81) (.t 82)),
  o2 84 79 true (.ld false 1 (.t 83)),
  o2 85 79 true (.len (.t 84)),
  o2 86 79 true (.bin .neq (.t 85) (.i 1)),
  o1 87 (.pick (.t 79) (.t 86) (.c (.bool false)))]
def r14_14 : List MOper := [o1 6 (.mov (.c (.bool false)))]
def r14_15 : List MOper := [o1 88 (.mov (.t 9)),
  o1 89 (.mov (.t 10)),
  o1 90 (.ixs 1 (.t 88) (.t 89)),
  n1 (.st 1 (.t 90) (.i 1))]
def r14_16 : List MOper := [o1 91 (.mov (.t 2)),
  o1 92 (.mov (.t 10)),
  o1 93 (.call 48 [(.t 91), (.t 92)])]
def r14_17 : List MOper := [o1 94 (.mov (.t 9)),
  o1 95 (.mov (.t 10)),
  o1 96 (.ixs 1 (.t 94) (.t 95)),
  n1 (.st 1 (.t 96) (.i 2))]
def r14_18 : List MOper := [o1 97 (.bin .add (.t 63) (.i 1)),
  o1 63 (.mov (.t 97))]
def b14_1 : MCode := .seq (.reg false r14_11 [1, 2, 3, 7, 8, 9, 62, 63, 64])
 (.seq (.cond 64 (.skip) (.exit 0))
 (.seq (.block 1 (.seq (.reg false r14_12 [1, 2, 3, 7, 8, 9, 10, 62, 63])
 (.seq (.seq (.reg false r14_13 [1, 2, 3, 7, 8, 9, 10, 62, 63, 87])
 (.cond 87 (.seq (.reg false r14_14 [6])
 (.ret)) (.skip)))
 (.seq (.reg false r14_15 [1, 2, 3, 7, 8, 9, 10, 62, 63])
 (.seq (.reg false r14_16 [1, 2, 3, 7, 8, 9, 10, 62, 63, 93])
 (.cond 93 (.reg false r14_17 [1, 2, 3, 7, 8, 9, 62, 63]) (.skip)))))))
 (.reg false r14_18 [1, 2, 3, 7, 8, 9, 62, 63])))
def r14_19 : List MOper := [o1 98 (.fld 1 (.t 8)),
  o1 99 (.ld false 1 (.t 98)),
  o1 100 (.mov (.t 9)),
  o1 101 (.mov (.t 7)),
  o1 102 (.call 65 [(.t 99), (.t 100), (.t 101)]),
  o1 103 (.mov (.t 102)),
  o2 104 103 true (.call 36 []),
  o1 105 (.pick (.t 103) (.t 104) (.c (.bool false))),
  o1 6 (.mov (.t 105))]
def c14 : MCode := .seq (.reg false r14_1 [1, 2, 3])
 (.seq (.seq (.reg false r14_2 [1, 2, 3, 19])
 (.cond 19 (.seq (.reg false r14_3 [6])
 (.ret)) (.skip)))
 (.seq (.reg false r14_4 [1, 2, 3])
 (.seq (.reg false r14_5 [1, 2, 3, 7])
 (.seq (.reg true r14_6 [1, 2, 3, 7, 8])
 (.seq (.seq (.reg false r14_7 [1, 2, 3, 7, 8, 57])
 (.cond 57 (.seq (.reg false r14_8 [6])
 (.ret)) (.skip)))
 (.seq (.reg false r14_9 [1, 2, 3, 7, 8, 9])
 (.seq (.seq (.reg false r14_10 [1, 2, 3, 7, 8, 9, 62, 63])
 (.block 0 (.loop [1, 2, 3, 7, 8, 9, 62, 63] b14_1)))
 (.seq (.reg false r14_19 [6])
 (.ret)))))))))
def m14 : MFunc := ⟨3, [.tmp 6], c14⟩
def r15_1 : List MOper := [o1 2 (.box (.t 0)),
  o1 4 (.mov (.c (.bool false)))]
def r15_2 : List MOper := [o1 8 (.ld true 2 (.t 2)),
  o1 9 (.mov (.t 1)),
  o1 10 (.call 28 [(.t 8), (.t 9)]),
  o1 11 (.bin .gtr (.t 10) (.i 0))]
def r15_3 : List MOper := [o1 12 (.call 71 []),
  o1 4 (.mov (.t 12))]
def r15_4 : List MOper := [o1 14 (.ld true 2 (.t 2)),
  o1 15 (.mov (.t 1)),
  o1 16 (.call 72 [(.t 14), (.t 15)]),
  o1 13 (.mov (.t 16)),
  o1 17 (.ext (.t 13) 0),
  o1 18 (.ext (.t 13) 1),
  o1 5 (.mov (.t 17)),
  o1 6 (.mov (.t 18))]
def q15_5 : List MOper := [ox (some 19) none .R false (.ld true 2 (.t 2)),
  o1 20 (.mov (.t 1)),
  ox (some 21) none .R false (.call 73 [(.t 19), (.t 20)]),
  ox (some 22) none .R false (.ld true 2 (.t 2)),
  o1 23 (.mov (.t 1)),
  ox (some 24) none .R false (.call 29 [(.t 22), (.t 23)]),
  o1 25 (.beq true (.t 21) (.t 24)),
  o1 26 (.mov (.t 25)),
  o2 27 26 false (.mov (.t 5)),
  ox (some 28) (some (26, false)) .R false (.ld true 2 (.t 2)),
  o2 29 26 false (.mov (.t 1)),
  ox (some 30) (some (26, false)) .R false (.call 74 [(.t 28), (.t 29)]),
  ox (some 31) (some (26, false)) .R false (.call 33 [(.t 27), (.t 30)]),
  o2 32 26 false (.not (.t 31)),
  o1 33 (.pick (.t 26) (.c (.bool true)) (.t 32)),
  o1 34 (.mov (.t 33)),
  o2 35 34 false (.mov (.t 6)),
  o2 36 34 false (.len (.t 35)),
  o2 37 34 false (.mov (.t 5)),
  o2 38 34 false (.len (.t 37)),
  o2 39 34 false (.bin .neq (.t 36) (.t 38)),
  o1 40 (.pick (.t 34) (.c (.bool true)) (.t 39))]
def r15_5 : List MOper := q15_5
def r15_6 : List MOper := [o1 4 (.mov (.c (.bool false)))]
def r15_7 : List MOper := [o1 41 (.mov (.t 5)),
  o1 42 (.len (.t 41)),
  o1 43 (.mov (.i 0))]
def r15_8 : List MOper := [o1 44 (.bin .lss (.t 43) (.t 42))]
def r15_9 : List MOper := [o1 45 (.mov (.t 43)),
  o1 7 (.mov (.t 45))]
def q15_10 : List MOper := [o1 46 (.mov (.t 5)),
  o1 47 (.mov (.t 7)),
  o1 48 (.ixs 1 (.t 46) (.t 47)),
  ox (some 49) none .R false (.ld false 1 (.t 48)),
  o1 50 (.fld 0 (.t 2)),
  ox (some 51) none .R false (.ld false 1 (.t 50)),
  o1 52 (.mov (.t 7)),
  o1 53 (.ixs 1 (.t 51) (.t 52)),
  ox (some 54) none .R false (.ld false 1 (.t 53)),
  o1 55 (.bin .neq (.t 49) (.t 54)),
  o1 56 (.mov (.t 55)),
  o2 57 56 true (.mov (.t 6)),
  o2 58 56 true (.mov (.t 7)),
  o2 59 56 true (.ixs 1 (.t 57) (.t 58)),
  ox (some 60) (some (56, true)) .R false (.ld false 1 (.t 59)),
  o2 61 56 true (.bin .neq (.t 60) (.i (-1))),
  o1 62 (.pick (.t 56) (.t 61) (.c (.bool false)))]
def r15_10 : List MOper := q15_10
def r15_11 : List MOper := [o1 4 (.mov (.c (.bool false)))]
def r15_12 : List MOper := [o1 63 (.bin .add (.t 43) (.i 1)),
  o1 43 (.mov (.t 63))]
def b15_1 : MCode := .seq (.reg false r15_8 [2, 5, 6, 42, 43, 44])
 (.seq (.cond 44 (.skip) (.exit 0))
 (.seq (.block 1 (.seq (.reg false r15_9 [2, 5, 6, 7, 42, 43])
 (.seq (.reg true r15_10 [2, 5, 6, 42, 43, 62])
 (.cond 62 (.seq (.reg false r15_11 [4])
 (.ret)) (.skip)))))
 (.reg false r15_12 [2, 5, 6, 42, 43])))
def r15_13 : List MOper := [o1 64 (.call 71 []),
  o1 4 (.mov (.t 64))]
def c15 : MCode := .seq (.reg false r15_1 [1, 2])
 (.seq (.seq (.reg false r15_2 [1, 2, 11])
 (.cond 11 (.seq (.reg false r15_3 [4])
 (.ret)) (.skip)))
 (.seq (.reg false r15_4 [1, 2, 5, 6])
 (.seq (.seq (.reg true r15_5 [2, 5, 6, 40])
 (.cond 40 (.seq (.reg false r15_6 [4])
 (.ret)) (.skip)))
 (.seq (.seq (.reg false r15_7 [2, 5, 6, 42, 43])
 (.block 0 (.loop [2, 5, 6, 42, 43] b15_1)))
 (.seq (.reg false r15_13 [4])
 (.ret))))))
def m15 : MFunc := ⟨3, [.tmp 4], c15⟩
def r16_1 : List MOper := [o1 2 (.box (.t 0)),
  o1 4 (.mov (.c (.bool false)))]
def r16_2 : List MOper := [o1 10 (.ld true 2 (.t 2)),
  o1 11 (.mov (.t 1)),
  o1 12 (.call 28 [(.t 10), (.t 11)]),
  o1 13 (.bin .gtr (.t 12) (.i 0)),
  o1 14 (.mov (.t 13)),
  o2 15 14 false (.ld true 2 (.t 2)),
  o2 16 14 false (.mov (.t 1)),
  o2 17 14 false (.call 29 [(.t 15), (.t 16)]),
  o2 18 14 false (.not (.t 17)),
  o1 19 (.pick (.t 14) (.c (.bool true)) (.t 18))]
def r16_3 : List MOper := [o1 20 (.call 71 []),
  o1 4 (.mov (.t 20))]
def r16_4 : List MOper := [o1 22 (.ld true 2 (.t 2)),
  o1 23 (.mov (.t 1)),
  o1 24 (.call 72 [(.t 22), (.t 23)]),
  o1 21 (.mov (.t 24)),
  o1 25 (.ext (.t 21) 0),
  o1 26 (.ext (.t 21) 1),
  o1 5 (.mov (.t 25)),
  o1 6 (.mov (.t 26))]
def r16_5 : List MOper := [o1 27 (.mov (.t 5)),
  o1 28 (.len (.t 27)),
  o1 29 (.mov (.t 1)),
  o1 30 (.len (.t 29)),
  o1 31 (.bin .neq (.t 28) (.t 30)),
  o1 32 (.mov (.t 31)),
  o2 33 32 false (.mov (.t 6)),
  o2 34 32 false (.len (.t 33)),
  o2 35 32 false (.mov (.t 1)),
  o2 36 32 false (.len (.t 35)),
  o2 37 32 false (.bin .neq (.t 34) (.t 36)),
  o1 38 (.pick (.t 32) (.c (.bool true)) (.t 37))]
def r16_6 : List MOper := [o1 4 (.mov (.c (.bool false)))]
def r16_7 : List MOper := [o1 39 (.mov (.i 0))]
def r16_8 : List MOper := [o1 40 (.bin .lss (.t 39) (.i 2))]
def r16_9 : List MOper := [o1 41 (.mov (.t 39)),
  o1 7 (.mov (.t 41))]
def r16_10 : List MOper := [o1 42 (.mov (.t 5)),
  o1 43 (.len (.t 42)),
  o1 44 (.mksl 1 (.bool false) (.t 43)),
  o1 8 (.mov (.t 44))]
def r16_11 : List MOper := [o1 45 (.mov (.t 5)),
  o1 46 (.len (.t 45)),
  o1 47 (.mov (.i 0))]
def r16_12 : List MOper := [o1 48 (.bin .lss (.t 47) (.t 46))]
def r16_13 : List MOper := [o1 49 (.mov (.t 47)),
  o1 9 (.mov (.t 49))]
def r16_14 : List MOper := [o1 50 (.mov (.t 5)),
  o1 51 (.mov (.t 9)),
  o1 52 (.ixs 1 (.t 50) (.t 51)),
  o1 53 (.ld false 1 (.t 52)),
  o1 54 (.bin .neq (.t 53) (.i 0)),
  o1 55 (.mov (.t 54)),
  o2 56 55 true (.mov (.t 5)),
  o2 57 55 true (.mov (.t 9)),
  o2 58 55 true (.ixs 1 (.t 56) (.t 57)),
  o2 59 55 true (.ld false 1 (.t 58)),
  o2 60 55 true (.bin .neq (.t 59) (.i 1)),
  o1 61 (.pick (.t 55) (.t 60) (.c (.bool false)))]
def r16_15 : List MOper := [o1 4 (.mov (.c (.bool false)))]
def r16_16 : List MOper := [o1 62 (.mov (.t 8)),
  o1 63 (.mov (.t 9)),
  o1 64 (.mov (.t 5)),
  o1 65 (.mov (.t 9)),
  o1 66 (.ixs 1 (.t 64) (.t 65)),
  o1 67 (.ld false 1 (.t 66)),
  o1 68 (.mov (.t 7)),
  o1 69 (.bin .eql (.t 67) (.t 68)),
  o1 70 (.ixs 1 (.t 62) (.t 63)),
  n1 (.st 1 (.t 70) (.t 69))]
def r16_17 : List MOper := [o1 71 (.bin .add (.t 47) (.i 1)),
  o1 47 (.mov (.t 71))]
def b16_2 : MCode := .seq (.reg false r16_12 [1, 2, 5, 6, 7, 8, 39, 46, 47, 48])
 (.seq (.cond 48 (.skip) (.exit 2))
 (.seq (.block 3 (.seq (.reg false r16_13 [1, 2, 5, 6, 7, 8, 9, 39, 46, 47])
 (.seq (.seq (.reg false r16_14 [1, 2, 5, 6, 7, 8, 9, 39, 46, 47, 61])
 (.cond 61 (.seq (.reg false r16_15 [4])
 (.ret)) (.skip)))
 (.reg false r16_16 [1, 2, 5, 6, 7, 8, 39, 46, 47]))))
 (.reg false r16_17 [1, 2, 5, 6, 7, 8, 39, 46, 47])))
def r16_18 : List MOper := [o1 72 (.ld true 2 (.t 2)),
  o1 73 (.mov (.t 1)),
  o1 74 (.mov (.t 7)),
  o1 75 (.mov (.t 6)),
  o1 76 (.mov (.t 8)),
  o1 77 (.call 63 [(.t 72), (.t 73), (.t 74), (.t 75), (.t 76)]),
  o1 78 (.not (.t 77))]
def r16_19 : List MOper := [o1 4 (.mov (.c (.bool false)))]
def r16_20 : List MOper := [o1 79 (.bin .add (.t 39) (.i 1)),
  o1 39 (.mov (.t 79))]
def b16_1 : MCode := .seq (.reg false r16_8 [1, 2, 5, 6, 39, 40])
 (.seq (.cond 40 (.skip) (.exit 0))
 (.seq (.block 1 (.seq (.reg false r16_9 [1, 2, 5, 6, 7, 39])
 (.seq (.reg false r16_10 [1, 2, 5, 6, 7, 8, 39])
 (.seq (.seq (.reg false r16_11 [1, 2, 5, 6, 7, 8, 39, 46, 47])
 (.block 2 (.loop [1, 2, 5, 6, 7, 8, 39, 46, 47] b16_2)))
 (.seq (.reg false r16_18 [1, 2, 5, 6, 39, 78])
 (.cond 78 (.seq (.reg false r16_19 [4])
 (.ret)) (.skip)))))))
 (.reg false r16_20 [1, 2, 5, 6, 39])))
def r16_21 : List MOper := [o1 80 (.call 71 []),
  o1 4 (.mov (.t 80))]
def c16 : MCode := .seq (.reg false r16_1 [1, 2])
 (.seq (.seq (.reg false r16_2 [1, 2, 19])
 (.cond 19 (.seq (.reg false r16_3 [4])
 (.ret)) (.skip)))
 (.seq (.reg false r16_4 [1, 2, 5, 6])
 (.seq (.seq (.reg false r16_5 [1, 2, 5, 6, 38])
 (.cond 38 (.seq (.reg false r16_6 [4])
 (.ret)) (.skip)))
 (.seq (.seq (.reg false r16_7 [1, 2, 5, 6, 39])
 (.block 0 (.loop [1, 2, 5, 6, 39] b16_1)))
 (.seq (.reg false r16_21 [4])
 (.ret))))))
def m16 : MFunc := ⟨3, [.tmp 4], c16⟩
def r17_1 : List MOper := [o1 2 (.box (.t 0)),
  o1 4 (.mov (.c (.bool false)))]
def r17_2 : List MOper := [o1 17 (.ld true 2 (.t 2)),
  o1 18 (.mov (.t 1)),
  o1 19 (.call 28 [(.t 17), (.t 18)]),
  o1 20 (.bin .gtr (.t 19) (.i 0)),
  o1 21 (.mov (.t 20)),
  o2 22 21 false (.ld true 2 (.t 2)),
  o2 23 21 false (.mov (.t 1)),
  o2 24 21 false (.call 29 [(.t 22), (.t 23)]),
  o2 25 21 false (.not (.t 24)),
  o1 26 (.pick (.t 21) (.c (.bool true)) (.t 25))]
def r17_3 : List MOper := [o1 27 (.call 71 []),
  o1 4 (.mov (.t 27))]
def q17_4 : List MOper := [o1 28 (.fld 0 (.t 2)),
  ox (some 29) none .R false (.ld false 1 (.t 28)),
  o1 30 (.len (.t 29)),
  ox (some 31) none .A false (.mksl 1 (.int .i64 0) (.t 30)),
  o1 32 (.fld 1 (.t 2)),
  ox (some 33) none .R false (.ld false 1 (.t 32)),
  o1 34 (.build [.fz .isnil 1 [], .fz .isnil 1 []] [] [(0, 1, (.t 31)), (1, 1, (.t 33))]),
  ox (some 5) none .A false (.alloc [.fz .isnil 1 [], .fz .isnil 1 []] []),
  ox none none .L false (.st 2 (.t 5) (.t 34))]
def r17_4 : List MOper := q17_4
def q17_5 : List MOper := [o1 35 (.mov (.t 1)),
  o1 36 (.len (.t 35)),
  ox (some 37) none .A false (.mksl 1 (.int .i64 0) (.t 36)),
  o1 38 (.mov (.t 1)),
  o1 39 (.len (.t 38)),
  ox (some 40) none .A false (.mksl 1 (.int .i64 0) (.t 39)),
  o1 6 (.mov (.t 37)),
  o1 7 (.mov (.t 40))]
def r17_5 : List MOper := q17_5
def r17_6 : List MOper := [o1 41 (.mov (.t 1)),
  o1 42 (.len (.t 41)),
  o1 43 (.mov (.i 0))]
def r17_7 : List MOper := [o1 44 (.bin .lss (.t 43) (.t 42))]
def r17_8 : List MOper := [o1 45 (.mov (.t 43)),
  o1 46 (.ixs 1 (.t 41) (.t 43)),
  o1 47 (.ld false 1 (.t 46)),
  o1 8 (.mov (.t 45)),
  o1 9 (.mov (.t 47))]
def r17_9 : List MOper := [o1 48 (.mov (.t 9)),
  o1 49 (.bin .geq (.t 48) (.i 4))]
def r17_10 : List MOper := [o1 50 (.call 71 []),
  o1 4 (.mov (.t 50))]
def q17_11 : List MOper := [o1 51 (.fld 0 (.t 5)),
  ox (some 52) none .R false (.ld false 1 (.t 51)),
  o1 53 (.mov (.t 8)),
  o1 54 (.fld 0 (.t 2)),
  ox (some 55) none .R false (.ld false 1 (.t 54)),
  o1 56 (.mov (.t 8)),
  o1 57 (.ixs 1 (.t 55) (.t 56)),
  ox (some 58) none .R false (.ld false 1 (.t 57)),
  o1 59 (.bin .sub (.i 1) (.t 58)),
  o1 60 (.ixs 1 (.t 52) (.t 53)),
  ox none none .L false (.st 1 (.t 60) (.t 59))]
def r17_11 : List MOper := q17_11
def r17_12 : List MOper := [o1 61 (.mov (.t 6)),
  o1 62 (.mov (.t 8)),
  o1 63 (.mov (.t 7)),
  o1 64 (.mov (.t 8)),
  o1 65 (.mov (.t 9)),
  o1 66 (.bin .add (.t 65) (.i 1)),
  o1 67 (.mov (.t 9)),
  o1 68 (.bin .add (.t 67) (.i 2)),
  o1 69 (.ixs 1 (.t 61) (.t 62)),
  n1 (.st 1 (.t 69) (.t 66)),
  o1 70 (.ixs 1 (.t 63) (.t 64)),
  n1 (.st 1 (.t 70) (.t 68))]
def r17_13 : List MOper := [o1 71 (.bin .add (.t 43) (.i 1)),
  o1 43 (.mov (.t 71))]
def b17_1 : MCode := .seq (.reg false r17_7 [1, 2, 5, 6, 7, 41, 42, 43, 44])
 (.seq (.cond 44 (.skip) (.exit 0))
 (.seq (.block 1 (.seq (.reg false r17_8 [1, 2, 5, 6, 7, 8, 9, 41, 42, 43])
 (.seq (.seq (.reg false r17_9 [1, 2, 5, 6, 7, 8, 9, 41, 42, 43, 49])
 (.cond 49 (.seq (.reg false r17_10 [4])
 (.ret)) (.skip)))
 (.seq (.reg true r17_11 [1, 2, 5, 6, 7, 8, 9, 41, 42, 43])
 (.reg false r17_12 [1, 2, 5, 6, 7, 41, 42, 43])))))
 (.reg false r17_13 [1, 2, 5, 6, 7, 41, 42, 43])))
def r17_14 : List MOper := [o1 73 (.ld true 2 (.t 2)),
  o1 74 (.mov (.t 1)),
  o1 75 (.call 72 [(.t 73), (.t 74)]),
  o1 72 (.mov (.t 75)),
  o1 76 (.ext (.t 72) 0),
  o1 77 (.ext (.t 72) 1),
  o1 10 (.mov (.t 76)),
  o1 11 (.mov (.t 77))]
def r17_15 : List MOper := [o1 79 (.ld true 2 (.t 5)),
  o1 80 (.mov (.t 6)),
  o1 81 (.call 72 [(.t 79), (.t 80)]),
  o1 78 (.mov (.t 81)),
  o1 82 (.ext (.t 78) 0),
  o1 83 (.ext (.t 78) 1),
  o1 12 (.mov (.t 82)),
  o1 13 (.mov (.t 83))]
def r17_16 : List MOper := [o1 85 (.ld true 2 (.t 2)),
  o1 86 (.mov (.t 7)),
  o1 87 (.call 72 [(.t 85), (.t 86)]),
  o1 84 (.mov (.t 87)),
  o1 88 (.ext (.t 84) 0),
  o1 89 (.ext (.t 84) 1),
  o1 14 (.mov (.t 88)),
  o1 15 (.mov (.t 89))]
def r17_17 : List MOper := [o1 90 (.mov (.t 10)),
  o1 91 (.len (.t 90)),
  o1 92 (.mov (.t 1)),
  o1 93 (.len (.t 92)),
  o1 94 (.bin .neq (.t 91) (.t 93)),
  o1 95 (.mov (.t 94)),
  o2 96 95 false (.mov (.t 12)),
  o2 97 95 false (.len (.t 96)),
  o2 98 95 false (.mov (.t 10)),
  o2 99 95 false (.len (.t 98)),
  o2 100 95 false (.bin .neq (.t 97) (.t 99)),
  o1 101 (.pick (.t 95) (.c (.bool true)) (.t 100)),
  o1 102 (.mov (.t 101)),
  o2 103 102 false (.mov (.t 14)),
  o2 104 102 false (.len (.t 103)),
  o2 105 102 false (.mov (.t 10)),
  o2 106 102 false (.len (.t 105)),
  o2 107 102 false (.bin .neq (.t 104) (.t 106)),
  o1 108 (.pick (.t 102) (.c (.bool true)) (.t 107))]
def r17_18 : List MOper := [o1 4 (.mov (.c (.bool false)))]
def r17_19 : List MOper := [o1 109 (.mov (.t 10)),
  o1 110 (.len (.t 109)),
  o1 111 (.mov (.i 0))]
def r17_20 : List MOper := [o1 112 (.bin .lss (.t 111) (.t 110))]
def r17_21 : List MOper := [o1 113 (.mov (.t 111)),
  o1 16 (.mov (.t 113))]
def q17_22 : List MOper := [o1 114 (.mov (.t 12)),
  o1 115 (.mov (.t 16)),
  o1 116 (.ixs 1 (.t 114) (.t 115)),
  ox (some 117) none .R false (.ld false 1 (.t 116)),
  o1 118 (.mov (.t 10)),
  o1 119 (.mov (.t 16)),
  o1 120 (.ixs 1 (.t 118) (.t 119)),
  ox (some 121) none .R false (.ld false 1 (.t 120)),
  o1 122 (.bin .sub (.i 1) (.t 121)),
  o1 123 (.bin .neq (.t 117) (.t 122)),
  o1 124 (.mov (.t 123)),
  o2 125 124 false (.mov (.t 14)),
  o2 126 124 false (.mov (.t 16)),
  o2 127 124 false (.ixs 1 (.t 125) (.t 126)),
  ox (some 128) (some (124, false)) .R false (.ld false 1 (.t 127)),
  o2 129 124 false (.mov (.t 10)),
  o2 130 124 false (.mov (.t 16)),
  o2 131 124 false (.ixs 1 (.t 129) (.t 130)),
  ox (some 132) (some (124, false)) .R false (.ld false 1 (.t 131)),
  o2 133 124 false (.bin .neq (.t 128) (.t 132)),
  o1 134 (.pick (.t 124) (.c (.bool true)) (.t 133))]
def r17_22 : List MOper := q17_22
def r17_23 : List MOper := [o1 4 (.mov (.c (.bool false)))]
def r17_24 : List MOper := [o1 135 (.bin .add (.t 111) (.i 1)),
  o1 111 (.mov (.t 135))]
def b17_2 : MCode := .seq (.reg false r17_20 [10, 12, 14, 110, 111, 112])
 (.seq (.cond 112 (.skip) (.exit 2))
 (.seq (.block 3 (.seq (.reg false r17_21 [10, 12, 14, 16, 110, 111])
 (.seq (.reg true r17_22 [10, 12, 14, 110, 111, 134])
 (.cond 134 (.seq (.reg false r17_23 [4])
 (.ret)) (.skip)))))
 (.reg false r17_24 [10, 12, 14, 110, 111])))
def r17_25 : List MOper := [o1 136 (.call 71 []),
  o1 4 (.mov (.t 136))]
def c17 : MCode := .seq (.reg false r17_1 [1, 2])
 (.seq (.seq (.reg false r17_2 [1, 2, 26])
 (.cond 26 (.seq (.reg false r17_3 [4])
 (.ret)) (.skip)))
 (.seq (.reg true r17_4 [1, 2, 5])
 (.seq (.reg true r17_5 [1, 2, 5, 6, 7])
 (.seq (.seq (.reg false r17_6 [1, 2, 5, 6, 7, 41, 42, 43])
 (.block 0 (.loop [1, 2, 5, 6, 7, 41, 42, 43] b17_1)))
 (.seq (.reg false r17_14 [1, 2, 5, 6, 7, 10])
 (.seq (.reg false r17_15 [1, 2, 7, 10, 12])
 (.seq (.reg false r17_16 [1, 10, 12, 14])
 (.seq (.seq (.reg false r17_17 [10, 12, 14, 108])
 (.cond 108 (.seq (.reg false r17_18 [4])
 (.ret)) (.skip)))
 (.seq (.seq (.reg false r17_19 [10, 12, 14, 110, 111])
 (.block 2 (.loop [10, 12, 14, 110, 111] b17_2)))
 (.seq (.reg false r17_25 [4])
 (.ret)))))))))))
def m17 : MFunc := ⟨3, [.tmp 4], c17⟩
end Go.Proofs.Ytlilfiekkaolkaa.Am
