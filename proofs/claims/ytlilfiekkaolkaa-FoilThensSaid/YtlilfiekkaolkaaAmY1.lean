/- The functions as code of the abstract machine (printed by gen.py), part 1. -/
import Derived.Test.YtlilfiekkaolkaaAmX
set_option linter.unusedVariables false
namespace Go.Proofs.Ytlilfiekkaolkaa.Am
open Go
def r18_1 : List MOper := [o1 2 (.box (.t 0)),
  o1 4 (.mov (.c (.bool false)))]
def r18_2 : List MOper := [o1 12 (.ld true 2 (.t 2)),
  o1 13 (.call 28 [(.t 12), (.c (.fz .isnil 1 []))]),
  o1 14 (.bin .gtr (.t 13) (.i 0)),
  o1 15 (.mov (.t 14)),
  o2 16 15 false (.ld true 2 (.t 2)),
  o2 17 15 false (.call 35 [(.t 16)]),
  o2 18 15 false (.bin .neq (.t 17) (.i 0)),
  o1 19 (.pick (.t 15) (.c (.bool true)) (.t 18))]
def r18_3 : List MOper := [o1 20 (.call 71 []),
  o1 4 (.mov (.t 20))]
def r18_4 : List MOper := [o1 21 (.mov (.t 1)),
  o1 22 (.cvt .u64 (.t 21)),
  o1 23 (.bin .rem (.t 22) (.c (.int .u64 6))),
  o1 24 (.cvt .i64 (.t 23)),
  o1 1 (.mov (.t 24))]
def r18_5 : List MOper := [o1 25 (.fld 0 (.t 2)),
  o1 26 (.ld false 1 (.t 25)),
  o1 27 (.len (.t 26)),
  o1 28 (.mksl 1 (.int .i64 0) (.t 27)),
  o1 5 (.mov (.t 28))]
def r18_6 : List MOper := [o1 29 (.mov (.t 5)),
  o1 30 (.len (.t 29)),
  o1 31 (.mov (.i 0))]
def r18_7 : List MOper := [o1 32 (.bin .lss (.t 31) (.t 30))]
def r18_8 : List MOper := [o1 33 (.mov (.t 31)),
  o1 6 (.mov (.t 33))]
def r18_9 : List MOper := [o1 34 (.mov (.t 5)),
  o1 35 (.mov (.t 6)),
  o1 36 (.mov (.t 1)),
  o1 37 (.ixs 1 (.t 34) (.t 35)),
  n1 (.st 1 (.t 37) (.t 36))]
def r18_10 : List MOper := [o1 38 (.bin .add (.t 31) (.i 1)),
  o1 31 (.mov (.t 38))]
def b18_1 : MCode := .seq (.reg false r18_7 [1, 2, 5, 30, 31, 32])
 (.seq (.cond 32 (.skip) (.exit 0))
 (.seq (.block 1 (.seq (.reg false r18_8 [1, 2, 5, 6, 30, 31])
 (.reg false r18_9 [1, 2, 5, 30, 31])))
 (.reg false r18_10 [1, 2, 5, 30, 31])))
def r18_11 : List MOper := [o1 7 (.mov (.i 1))]
def r18_12 : List MOper := [o1 39 (.mov (.t 1)),
  o1 40 (.bin .rem (.t 39) (.i 2)),
  o1 41 (.bin .eql (.t 40) (.i 1))]
def r18_13 : List MOper := [o1 7 (.mov (.i 0))]
def r18_14 : List MOper := [o1 43 (.ld true 2 (.t 2)),
  o1 44 (.mov (.t 5)),
  o1 45 (.call 72 [(.t 43), (.t 44)]),
  o1 42 (.mov (.t 45)),
  o1 46 (.ext (.t 42) 0),
  o1 47 (.ext (.t 42) 1),
  o1 8 (.mov (.t 46)),
  o1 9 (.mov (.t 47))]
def r18_15 : List MOper := [o1 48 (.ld true 2 (.t 2)),
  o1 49 (.mov (.t 7)),
  o1 50 (.bin .sub (.i 1) (.t 49)),
  o1 51 (.call 75 [(.t 48), (.t 50), (.c (.fz .isnil 1 []))]),
  o1 10 (.mov (.t 51))]
def r18_16 : List MOper := [o1 52 (.mov (.t 8)),
  o1 53 (.len (.t 52)),
  o1 54 (.mov (.t 10)),
  o1 55 (.len (.t 54)),
  o1 56 (.bin .neq (.t 53) (.t 55))]
def r18_17 : List MOper := [o1 4 (.mov (.c (.bool false)))]
def r18_18 : List MOper := [o1 57 (.mov (.t 8)),
  o1 58 (.len (.t 57)),
  o1 59 (.mov (.i 0))]
def r18_19 : List MOper := [o1 60 (.bin .lss (.t 59) (.t 58))]
def r18_20 : List MOper := [o1 61 (.mov (.t 59)),
  o1 11 (.mov (.t 61))]
def q18_21 : List MOper := [o1 62 (.mov (.t 8)),
  o1 63 (.mov (.t 11)),
  o1 64 (.ixs 1 (.t 62) (.t 63)),
  ox (some 65) none .R false (.ld false 1 (.t 64)),
  o1 66 (.mov (.t 7)),
  o1 67 (.bin .eql (.t 65) (.t 66)),
  o1 68 (.mov (.t 10)),
  o1 69 (.mov (.t 11)),
  o1 70 (.ixs 1 (.t 68) (.t 69)),
  ox (some 71) none .R false (.ld false 1 (.t 70)),
  o1 72 (.beq false (.t 67) (.t 71))]
def r18_21 : List MOper := q18_21
def r18_22 : List MOper := [o1 4 (.mov (.c (.bool false)))]
def r18_23 : List MOper := [o1 73 (.bin .add (.t 59) (.i 1)),
  o1 59 (.mov (.t 73))]
def b18_2 : MCode := .seq (.reg false r18_19 [7, 8, 10, 58, 59, 60])
 (.seq (.cond 60 (.skip) (.exit 2))
 (.seq (.block 3 (.seq (.reg false r18_20 [7, 8, 10, 11, 58, 59])
 (.seq (.reg true r18_21 [7, 8, 10, 58, 59, 72])
 (.cond 72 (.seq (.reg false r18_22 [4])
 (.ret)) (.skip)))))
 (.reg false r18_23 [7, 8, 10, 58, 59])))
def r18_24 : List MOper := [o1 74 (.call 71 []),
  o1 4 (.mov (.t 74))]
def c18 : MCode := .seq (.reg false r18_1 [1, 2])
 (.seq (.seq (.reg false r18_2 [1, 2, 19])
 (.cond 19 (.seq (.reg false r18_3 [4])
 (.ret)) (.skip)))
 (.seq (.reg false r18_4 [1, 2])
 (.seq (.reg false r18_5 [1, 2, 5])
 (.seq (.seq (.reg false r18_6 [1, 2, 5, 30, 31])
 (.block 0 (.loop [1, 2, 5, 30, 31] b18_1)))
 (.seq (.reg false r18_11 [1, 2, 5, 7])
 (.seq (.seq (.reg false r18_12 [2, 5, 7, 41])
 (.cond 41 (.reg false r18_13 [2, 5, 7]) (.skip)))
 (.seq (.reg false r18_14 [2, 7, 8])
 (.seq (.reg false r18_15 [7, 8, 10])
 (.seq (.seq (.reg false r18_16 [7, 8, 10, 56])
 (.cond 56 (.seq (.reg false r18_17 [4])
 (.ret)) (.skip)))
 (.seq (.seq (.reg false r18_18 [7, 8, 10, 58, 59])
 (.block 2 (.loop [7, 8, 10, 58, 59] b18_2)))
 (.seq (.reg false r18_24 [4])
 (.ret))))))))))))
def m18 : MFunc := ⟨3, [.tmp 4], c18⟩
def r19_1 : List MOper := [o1 2 (.box (.t 0)),
  o1 4 (.mov (.c (.bool false)))]
def r19_2 : List MOper := [o1 16 (.ld true 2 (.t 2)),
  o1 17 (.call 28 [(.t 16), (.c (.fz .isnil 1 []))]),
  o1 18 (.bin .gtr (.t 17) (.i 0)),
  o1 19 (.mov (.t 18)),
  o2 20 19 false (.ld true 2 (.t 2)),
  o2 21 19 false (.call 35 [(.t 20)]),
  o2 22 19 false (.bin .neq (.t 21) (.i 0)),
  o1 23 (.pick (.t 19) (.c (.bool true)) (.t 22)),
  o1 24 (.mov (.t 23)),
  o2 25 24 false (.mov (.t 1)),
  o2 26 24 false (.len (.t 25)),
  o2 27 24 false (.bin .gtr (.t 26) (.i 300)),
  o1 28 (.pick (.t 24) (.c (.bool true)) (.t 27))]
def r19_3 : List MOper := [o1 29 (.call 71 []),
  o1 4 (.mov (.t 29))]
def q19_4 : List MOper := [o1 30 (.fld 0 (.t 2)),
  ox (some 31) none .R false (.ld false 1 (.t 30)),
  o1 32 (.len (.t 31)),
  ox (some 33) none .A false (.mksl 1 (.int .i64 0) (.t 32)),
  o1 34 (.fld 0 (.t 2)),
  ox (some 35) none .R false (.ld false 1 (.t 34)),
  o1 36 (.len (.t 35)),
  ox (some 37) none .A false (.mksl 1 (.int .i64 0) (.t 36)),
  o1 5 (.mov (.t 33)),
  o1 6 (.mov (.t 37))]
def r19_4 : List MOper := q19_4
def r19_5 : List MOper := [o1 38 (.fld 0 (.t 2)),
  o1 39 (.ld false 1 (.t 38)),
  o1 40 (.len (.t 39)),
  o1 41 (.mksl 1 (.bool false) (.t 40)),
  o1 7 (.mov (.t 41))]
def r19_6 : List MOper := [o1 42 (.mov (.t 5)),
  o1 43 (.len (.t 42)),
  o1 44 (.mov (.i 0))]
def r19_7 : List MOper := [o1 45 (.bin .lss (.t 44) (.t 43))]
def r19_8 : List MOper := [o1 46 (.mov (.t 44)),
  o1 8 (.mov (.t 46))]
def r19_9 : List MOper := [o1 47 (.mov (.t 7)),
  o1 48 (.mov (.t 8)),
  o1 49 (.mov (.t 1)),
  o1 50 (.mov (.t 8)),
  o1 51 (.call 48 [(.t 49), (.t 50)]),
  o1 52 (.not (.t 51)),
  o1 53 (.ixs 1 (.t 47) (.t 48)),
  n1 (.st 1 (.t 53) (.t 52))]
def r19_10 : List MOper := [o1 54 (.mov (.t 5)),
  o1 55 (.mov (.t 8)),
  o1 56 (.ixs 1 (.t 54) (.t 55)),
  n1 (.st 1 (.t 56) (.i 1))]
def r19_11 : List MOper := [o1 57 (.mov (.t 1)),
  o1 58 (.mov (.t 8)),
  o1 59 (.call 48 [(.t 57), (.t 58)])]
def r19_12 : List MOper := [o1 60 (.mov (.t 5)),
  o1 61 (.mov (.t 8)),
  o1 62 (.mov (.t 6)),
  o1 63 (.mov (.t 8)),
  o1 64 (.ixs 1 (.t 60) (.t 61)),
  n1 (.st 1 (.t 64) (.i 2)),
  o1 65 (.ixs 1 (.t 62) (.t 63)),
  n1 (.st 1 (.t 65) (.i 1))]
def r19_13 : List MOper := [o1 66 (.bin .add (.t 44) (.i 1)),
  o1 44 (.mov (.t 66))]
def b19_1 : MCode := .seq (.reg false r19_7 [1, 2, 5, 6, 7, 43, 44, 45])
 (.seq (.cond 45 (.skip) (.exit 0))
 (.seq (.block 1 (.seq (.reg false r19_8 [1, 2, 5, 6, 7, 8, 43, 44])
 (.seq (.reg false r19_9 [1, 2, 5, 6, 7, 8, 43, 44])
 (.seq (.reg false r19_10 [1, 2, 5, 6, 7, 8, 43, 44])
 (.seq (.reg false r19_11 [1, 2, 5, 6, 7, 8, 43, 44, 59])
 (.cond 59 (.reg false r19_12 [1, 2, 5, 6, 7, 43, 44]) (.skip)))))))
 (.reg false r19_13 [1, 2, 5, 6, 7, 43, 44])))
def r19_14 : List MOper := [o1 68 (.ld true 2 (.t 2)),
  o1 69 (.mov (.t 5)),
  o1 70 (.call 72 [(.t 68), (.t 69)]),
  o1 67 (.mov (.t 70)),
  o1 71 (.ext (.t 67) 0),
  o1 72 (.ext (.t 67) 1),
  o1 9 (.mov (.t 71)),
  o1 10 (.mov (.t 72))]
def r19_15 : List MOper := [o1 74 (.ld true 2 (.t 2)),
  o1 75 (.mov (.t 6)),
  o1 76 (.call 72 [(.t 74), (.t 75)]),
  o1 73 (.mov (.t 76)),
  o1 77 (.ext (.t 73) 0),
  o1 78 (.ext (.t 73) 1),
  o1 11 (.mov (.t 77)),
  o1 12 (.mov (.t 78))]
def q19_16 : List MOper := [ox (some 79) none .R false (.ld true 2 (.t 2)),
  o1 80 (.mov (.t 1)),
  ox (some 81) none .R false (.call 76 [(.t 79), (.i 1), (.t 80)]),
  ox (some 82) none .R false (.ld true 2 (.t 2)),
  o1 83 (.mov (.t 7)),
  ox (some 84) none .R false (.call 77 [(.t 82), (.i 1), (.t 83)]),
  o1 13 (.mov (.t 81)),
  o1 14 (.mov (.t 84))]
def r19_16 : List MOper := q19_16
def r19_17 : List MOper := [o1 85 (.mov (.t 9)),
  o1 86 (.len (.t 85)),
  o1 87 (.mov (.t 13)),
  o1 88 (.len (.t 87)),
  o1 89 (.bin .neq (.t 86) (.t 88)),
  o1 90 (.mov (.t 89)),
  o2 91 90 false (.mov (.t 11)),
  o2 92 90 false (.len (.t 91)),
  o2 93 90 false (.mov (.t 14)),
  o2 94 90 false (.len (.t 93)),
  o2 95 90 false (.bin .neq (.t 92) (.t 94)),
  o1 96 (.pick (.t 90) (.c (.bool true)) (.t 95))]
def r19_18 : List MOper := [o1 4 (.mov (.c (.bool false)))]
def r19_19 : List MOper := [o1 97 (.mov (.t 9)),
  o1 98 (.len (.t 97)),
  o1 99 (.mov (.i 0))]
def r19_20 : List MOper := [o1 100 (.bin .lss (.t 99) (.t 98))]
def r19_21 : List MOper := [o1 101 (.mov (.t 99)),
  o1 15 (.mov (.t 101))]
def q19_22 : List MOper := [o1 102 (.mov (.t 9)),
  o1 103 (.mov (.t 15)),
  o1 104 (.ixs 1 (.t 102) (.t 103)),
  ox (some 105) none .R false (.ld false 1 (.t 104)),
  o1 106 (.bin .eql (.t 105) (.i 1)),
  o1 107 (.mov (.t 13)),
  o1 108 (.mov (.t 15)),
  o1 109 (.ixs 1 (.t 107) (.t 108)),
  ox (some 110) none .R false (.ld false 1 (.t 109)),
  o1 111 (.beq true (.t 106) (.t 110)),
  o1 112 (.mov (.t 111)),
  o2 113 112 false (.mov (.t 11)),
  o2 114 112 false (.mov (.t 15)),
  o2 115 112 false (.ixs 1 (.t 113) (.t 114)),
  ox (some 116) (some (112, false)) .R false (.ld false 1 (.t 115)),
  o2 117 112 false (.bin .eql (.t 116) (.i 1)),
  o2 118 112 false (.mov (.t 14)),
  o2 119 112 false (.mov (.t 15)),
  o2 120 112 false (.ixs 1 (.t 118) (.t 119)),
  ox (some 121) (some (112, false)) .R false (.ld false 1 (.t 120)),
  o2 122 112 false (.beq true (.t 117) (.t 121)),
  o1 123 (.pick (.t 112) (.c (.bool true)) (.t 122))]
def r19_22 : List MOper := q19_22
def r19_23 : List MOper := [o1 4 (.mov (.c (.bool false)))]
def r19_24 : List MOper := [o1 124 (.bin .add (.t 99) (.i 1)),
  o1 99 (.mov (.t 124))]
def b19_2 : MCode := .seq (.reg false r19_20 [9, 11, 13, 14, 98, 99, 100])
 (.seq (.cond 100 (.skip) (.exit 2))
 (.seq (.block 3 (.seq (.reg false r19_21 [9, 11, 13, 14, 15, 98, 99])
 (.seq (.reg true r19_22 [9, 11, 13, 14, 98, 99, 123])
 (.cond 123 (.seq (.reg false r19_23 [4])
 (.ret)) (.skip)))))
 (.reg false r19_24 [9, 11, 13, 14, 98, 99])))
def r19_25 : List MOper := [o1 125 (.call 71 []),
  o1 4 (.mov (.t 125))]
def c19 : MCode := .seq (.reg false r19_1 [1, 2])
 (.seq (.seq (.reg false r19_2 [1, 2, 28])
 (.cond 28 (.seq (.reg false r19_3 [4])
 (.ret)) (.skip)))
 (.seq (.reg true r19_4 [1, 2, 5, 6])
 (.seq (.reg false r19_5 [1, 2, 5, 6, 7])
 (.seq (.seq (.reg false r19_6 [1, 2, 5, 6, 7, 43, 44])
 (.block 0 (.loop [1, 2, 5, 6, 7, 43, 44] b19_1)))
 (.seq (.frzv 7 (.frzv 6 (.frzv 5 (.reg false r19_14 [1, 2, 6, 7, 9]))))
 (.seq (.reg false r19_15 [1, 2, 7, 9, 11])
 (.seq (.reg true r19_16 [9, 11, 13, 14])
 (.seq (.seq (.reg false r19_17 [9, 11, 13, 14, 96])
 (.cond 96 (.seq (.reg false r19_18 [4])
 (.ret)) (.skip)))
 (.seq (.seq (.reg false r19_19 [9, 11, 13, 14, 98, 99])
 (.block 2 (.loop [9, 11, 13, 14, 98, 99] b19_2)))
 (.seq (.reg false r19_25 [4])
 (.ret)))))))))))
def m19 : MFunc := ⟨3, [.tmp 4], c19⟩
def r20_1 : List MOper := [o1 4 (.box (.t 0)),
  o1 8 (.mov (.c (.bool false)))]
def r20_2 : List MOper := [o1 25 (.ld true 2 (.t 4)),
  o1 26 (.mov (.t 1)),
  o1 27 (.call 28 [(.t 25), (.t 26)]),
  o1 28 (.bin .gtr (.t 27) (.i 0)),
  o1 29 (.mov (.t 28)),
  o2 30 29 false (.ld true 2 (.t 4)),
  o2 31 29 false (.mov (.t 1)),
  o2 32 29 false (.call 29 [(.t 30), (.t 31)]),
  o2 33 29 false (.not (.t 32)),
  o1 34 (.pick (.t 29) (.c (.bool true)) (.t 33)),
  o1 35 (.mov (.t 34)),
  o2 36 35 false (.mov (.t 1)),
  o2 37 35 false (.len (.t 36)),
  o2 38 35 false (.bin .eql (.t 37) (.i 0)),
  o1 39 (.pick (.t 35) (.c (.bool true)) (.t 38)),
  o1 40 (.mov (.t 39)),
  o2 41 40 false (.mov (.t 3)),
  o2 42 40 false (.len (.t 41)),
  o2 43 40 false (.bin .lss (.t 42) (.i 1)),
  o1 44 (.pick (.t 40) (.c (.bool true)) (.t 43)),
  o1 45 (.mov (.t 44)),
  o2 46 45 false (.mov (.t 3)),
  o2 47 45 false (.len (.t 46)),
  o2 48 45 false (.bin .gtr (.t 47) (.i 30)),
  o1 49 (.pick (.t 45) (.c (.bool true)) (.t 48))]
def r20_3 : List MOper := [o1 50 (.call 71 []),
  o1 8 (.mov (.t 50))]
def r20_4 : List MOper := [o1 51 (.mov (.t 2)),
  o1 52 (.cvt .u64 (.t 51)),
  o1 53 (.mov (.t 1)),
  o1 54 (.len (.t 53)),
  o1 55 (.cvt .u64 (.t 54)),
  o1 56 (.bin .rem (.t 52) (.t 55)),
  o1 57 (.cvt .i64 (.t 56)),
  o1 2 (.mov (.t 57))]
def r20_5 : List MOper := [o1 59 (.ld true 2 (.t 4)),
  o1 60 (.mov (.t 1)),
  o1 61 (.call 72 [(.t 59), (.t 60)]),
  o1 58 (.mov (.t 61)),
  o1 62 (.ext (.t 58) 0),
  o1 63 (.ext (.t 58) 1),
  o1 9 (.mov (.t 62)),
  o1 10 (.mov (.t 63))]
def r20_6 : List MOper := [o1 64 (.mov (.t 9)),
  o1 65 (.len (.t 64)),
  o1 66 (.mov (.t 1)),
  o1 67 (.len (.t 66)),
  o1 68 (.bin .neq (.t 65) (.t 67)),
  o1 69 (.mov (.t 68)),
  o2 70 69 false (.mov (.t 10)),
  o2 71 69 false (.len (.t 70)),
  o2 72 69 false (.mov (.t 1)),
  o2 73 69 false (.len (.t 72)),
  o2 74 69 false (.bin .neq (.t 71) (.t 73)),
  o1 75 (.pick (.t 69) (.c (.bool true)) (.t 74))]
def r20_7 : List MOper := [o1 8 (.mov (.c (.bool false)))]
def r20_8 : List MOper := [o1 76 (.mov (.t 9)),
  o1 77 (.mov (.t 2)),
  o1 78 (.ixs 1 (.t 76) (.t 77)),
  o1 79 (.ld false 1 (.t 78)),
  o1 11 (.mov (.t 79))]
def r20_9 : List MOper := [o1 80 (.mkmap),
  o1 12 (.mov (.t 80))]
def r20_10 : List MOper := [o1 13 (.tnil 1)]
def r20_11 : List MOper := [o1 81 (.mov (.i 0))]
def r20_12 : List MOper := [o1 82 (.bin .lss (.t 81) (.i 1891))]
def r20_13 : List MOper := [o1 83 (.mov (.t 81)),
  o1 14 (.mov (.t 83))]
def r20_14 : List MOper := [o1 84 (.mov (.t 14)),
  o1 85 (.mov (.t 3)),
  o1 86 (.len (.t 85)),
  o1 87 (.bin .rem (.t 84) (.t 86)),
  o1 15 (.mov (.t 87))]
def r20_15 : List MOper := [o1 88 (.mov (.t 12)),
  o1 89 (.mov (.t 2)),
  o1 90 (.mov (.t 15)),
  o1 91 (.build [.int .i64 0, .int .i64 0] [] [(0, 1, (.t 89)), (1, 1, (.t 90))]),
  o1 92 (.lkp (some 2) (.int .i64 0) (.t 88) (.t 91)),
  o1 16 (.mov (.t 92))]
def r20_16 : List MOper := [o1 93 (.mov (.t 16)),
  o1 94 (.bin .gtr (.t 93) (.i 0))]
def r20_17 : List MOper := [o1 17 (.mov (.i 0))]
def r20_18 : List MOper := [o1 95 (.mov (.t 13)),
  o1 96 (.mov (.t 16)),
  o1 97 (.bin .sub (.t 96) (.i 1)),
  o1 98 (.slc 1 (.t 95) (some (.t 97)) none),
  o1 99 (.len (.t 98)),
  o1 100 (.mov (.i 0))]
def r20_19 : List MOper := [o1 101 (.bin .lss (.t 100) (.t 99))]
def r20_20 : List MOper := [o1 102 (.ixs 1 (.t 98) (.t 100)),
  o1 103 (.ld false 1 (.t 102)),
  o1 19 (.mov (.t 103))]
def r20_21 : List MOper := [o1 104 (.mov (.t 17)),
  o1 105 (.mov (.t 1)),
  o1 106 (.mov (.t 19)),
  o1 107 (.ixs 1 (.t 105) (.t 106)),
  o1 108 (.ld false 1 (.t 107)),
  o1 109 (.mx [(.t 104), (.t 108)]),
  o1 17 (.mov (.t 109))]
def r20_22 : List MOper := [o1 110 (.bin .add (.t 100) (.i 1)),
  o1 100 (.mov (.t 110))]
def b20_2 : MCode := .seq (.reg false r20_19 [1, 11, 17, 98, 99, 100, 101])
 (.seq (.cond 101 (.skip) (.exit 2))
 (.seq (.block 3 (.seq (.reg false r20_20 [1, 11, 17, 19, 98, 99, 100])
 (.reg false r20_21 [1, 11, 17, 98, 99, 100])))
 (.reg false r20_22 [1, 11, 17, 98, 99, 100])))
def r20_23 : List MOper := [o1 111 (.mov (.t 17)),
  o1 112 (.bin .rem (.t 111) (.i 2)),
  o1 113 (.bin .eql (.t 112) (.i 0)),
  o1 114 (.mov (.t 11)),
  o1 115 (.bin .eql (.t 114) (.i 1)),
  o1 116 (.beq false (.t 113) (.t 115)),
  o1 117 (.mov (.t 116)),
  o2 118 117 true (.call 71 []),
  o1 119 (.pick (.t 117) (.t 118) (.c (.bool false))),
  o1 8 (.mov (.t 119))]
def r20_24 : List MOper := [o1 120 (.mov (.t 12)),
  o1 121 (.mov (.t 2)),
  o1 122 (.mov (.t 15)),
  o1 123 (.build [.int .i64 0, .int .i64 0] [] [(0, 1, (.t 121)), (1, 1, (.t 122))]),
  o1 124 (.mov (.t 13)),
  o1 125 (.len (.t 124)),
  o1 126 (.bin .add (.t 125) (.i 1)),
  n1 (.mup (some 2) (.t 120) (.t 123) (.t 126))]
def r20_25 : List MOper := [o1 127 (.mov (.t 13)),
  o1 128 (.mov (.t 2)),
  o1 129 (.bsl false 1 [(.t 128)]),
  o1 130 (.app 1 (.t 127) (.t 129)),
  o1 13 (.mov (.t 130))]
def r20_26 : List MOper := [o1 131 (.fld 1 (.t 4)),
  o1 132 (.ld false 1 (.t 131)),
  o1 133 (.mov (.t 2)),
  o1 134 (.ixs 1 (.t 132) (.t 133)),
  o1 135 (.ld false 1 (.t 134)),
  o1 20 (.mov (.t 135))]
def r20_27 : List MOper := [o1 136 (.mov (.t 20)),
  o1 137 (.len (.t 136)),
  o1 138 (.bin .eql (.t 137) (.i 0))]
def r20_28 : List MOper := [o1 139 (.fld 0 (.t 4)),
  o1 140 (.ld false 1 (.t 139)),
  o1 141 (.mov (.t 2)),
  o1 142 (.ixs 1 (.t 140) (.t 141)),
  o1 143 (.ld false 1 (.t 142)),
  o1 144 (.mov (.t 11)),
  o1 145 (.bin .neq (.t 143) (.t 144)),
  o1 146 (.mov (.t 145)),
  o2 147 146 true (.call 71 []),
  o1 148 (.pick (.t 146) (.t 147) (.c (.bool false))),
  o1 8 (.mov (.t 148))]
def r20_29 : List MOper := [o1 149 (.mov (.t 20)),
  o1 150 (.mov (.t 3)),
  o1 151 (.mov (.t 15)),
  o1 152 (.ixs 1 (.t 150) (.t 151)),
  o1 153 (.ld false 1 (.t 152)),
  o1 154 (.cvt .u64 (.t 153)),
  o1 155 (.mov (.t 20)),
  o1 156 (.len (.t 155)),
  o1 157 (.cvt .u64 (.t 156)),
  o1 158 (.bin .rem (.t 154) (.t 157)),
  o1 159 (.cvt .i64 (.t 158)),
  o1 160 (.ixs 1 (.t 149) (.t 159)),
  o1 161 (.ld false 1 (.t 160)),
  o1 21 (.mov (.t 161))]
def r20_30 : List MOper := [o1 162 (.fld 0 (.t 4)),
  o1 163 (.ld false 1 (.t 162)),
  o1 164 (.mov (.t 2)),
  o1 165 (.ixs 1 (.t 163) (.t 164)),
  o1 166 (.ld false 1 (.t 165)),
  o1 167 (.mov (.t 11)),
  o1 168 (.bin .eql (.t 166) (.t 167))]
def r20_31 : List MOper := [o1 22 (.mov (.c (.bool false)))]
def r20_32 : List MOper := [o1 169 (.mov (.t 20)),
  o1 170 (.len (.t 169)),
  o1 171 (.mov (.i 0))]
def r20_33 : List MOper := [o1 172 (.bin .lss (.t 171) (.t 170))]
def r20_34 : List MOper := [o1 173 (.ixs 1 (.t 169) (.t 171)),
  o1 174 (.ld false 1 (.t 173)),
  o1 24 (.mov (.t 174))]
def r20_35 : List MOper := [o1 175 (.mov (.t 22)),
  o1 176 (.mov (.t 175)),
  o2 177 176 false (.mov (.t 24)),
  o2 178 176 false (.mov (.t 10)),
  o2 179 176 false (.mov (.t 2)),
  o2 180 176 false (.ixs 1 (.t 178) (.t 179)),
  o2 181 176 false (.ld false 1 (.t 180)),
  o2 182 176 false (.bin .eql (.t 177) (.t 181)),
  o1 183 (.pick (.t 176) (.c (.bool true)) (.t 182)),
  o1 22 (.mov (.t 183))]
def r20_36 : List MOper := [o1 184 (.bin .add (.t 171) (.i 1)),
  o1 171 (.mov (.t 184))]
def b20_3 : MCode := .seq (.reg false r20_33 [1, 2, 3, 4, 10, 11, 12, 13, 22, 81, 169, 170, 171, 172])
 (.seq (.cond 172 (.skip) (.exit 4))
 (.seq (.block 5 (.seq (.reg false r20_34 [1, 2, 3, 4, 10, 11, 12, 13, 22, 24, 81, 169, 170, 171])
 (.reg false r20_35 [1, 2, 3, 4, 10, 11, 12, 13, 22, 81, 169, 170, 171])))
 (.reg false r20_36 [1, 2, 3, 4, 10, 11, 12, 13, 22, 81, 169, 170, 171])))
def r20_37 : List MOper := [o1 185 (.mov (.t 22)),
  o1 186 (.not (.t 185))]
def r20_38 : List MOper := [o1 8 (.mov (.c (.bool false)))]
def r20_39 : List MOper := [o1 187 (.mov (.t 10)),
  o1 188 (.mov (.t 2)),
  o1 189 (.ixs 1 (.t 187) (.t 188)),
  o1 190 (.ld false 1 (.t 189)),
  o1 21 (.mov (.t 190))]
def r20_40 : List MOper := [o1 191 (.mov (.t 21)),
  o1 2 (.mov (.t 191))]
def r20_41 : List MOper := [o1 192 (.bin .add (.t 81) (.i 1)),
  o1 81 (.mov (.t 192))]
def b20_1 : MCode := .seq (.reg false r20_12 [1, 2, 3, 4, 10, 11, 12, 13, 81, 82])
 (.seq (.cond 82 (.skip) (.exit 0))
 (.seq (.block 1 (.seq (.reg false r20_13 [1, 2, 3, 4, 10, 11, 12, 13, 14, 81])
 (.seq (.reg false r20_14 [1, 2, 3, 4, 10, 11, 12, 13, 15, 81])
 (.seq (.seq (.reg false r20_15 [1, 2, 3, 4, 10, 11, 12, 13, 15, 16, 81])
 (.seq (.reg false r20_16 [1, 2, 3, 4, 10, 11, 12, 13, 15, 16, 81, 94])
 (.cond 94 (.seq (.reg false r20_17 [1, 11, 13, 16, 17])
 (.seq (.seq (.reg false r20_18 [1, 11, 17, 98, 99, 100])
 (.block 2 (.loop [1, 11, 17, 98, 99, 100] b20_2)))
 (.seq (.reg false r20_23 [8])
 (.ret)))) (.skip))))
 (.seq (.reg false r20_24 [1, 2, 3, 4, 10, 11, 12, 13, 15, 81])
 (.seq (.reg false r20_25 [1, 2, 3, 4, 10, 11, 12, 13, 15, 81])
 (.seq (.reg false r20_26 [1, 2, 3, 4, 10, 11, 12, 13, 15, 20, 81])
 (.seq (.seq (.reg false r20_27 [1, 2, 3, 4, 10, 11, 12, 13, 15, 20, 81, 138])
 (.cond 138 (.seq (.reg false r20_28 [8])
 (.ret)) (.skip)))
 (.seq (.reg false r20_29 [1, 2, 3, 4, 10, 11, 12, 13, 20, 21, 81])
 (.seq (.seq (.reg false r20_30 [1, 2, 3, 4, 10, 11, 12, 13, 20, 21, 81, 168])
 (.cond 168 (.seq (.reg false r20_31 [1, 2, 3, 4, 10, 11, 12, 13, 20, 22, 81])
 (.seq (.seq (.reg false r20_32 [1, 2, 3, 4, 10, 11, 12, 13, 22, 81, 169, 170, 171])
 (.block 4 (.loop [1, 2, 3, 4, 10, 11, 12, 13, 22, 81, 169, 170, 171] b20_3)))
 (.seq (.seq (.reg false r20_37 [1, 2, 3, 4, 10, 11, 12, 13, 81, 186])
 (.cond 186 (.seq (.reg false r20_38 [8])
 (.ret)) (.skip)))
 (.reg false r20_39 [1, 3, 4, 10, 11, 12, 13, 21, 81])))) (.skip)))
 (.reg false r20_40 [1, 2, 3, 4, 10, 11, 12, 13, 81])))))))))))
 (.reg false r20_41 [1, 2, 3, 4, 10, 11, 12, 13, 81])))
def r20_42 : List MOper := [o1 8 (.mov (.c (.bool false)))]
def c20 : MCode := .seq (.reg false r20_1 [1, 2, 3, 4])
 (.seq (.seq (.reg false r20_2 [1, 2, 3, 4, 49])
 (.cond 49 (.seq (.reg false r20_3 [8])
 (.ret)) (.skip)))
 (.seq (.reg false r20_4 [1, 2, 3, 4])
 (.seq (.reg false r20_5 [1, 2, 3, 4, 9, 10])
 (.seq (.seq (.reg false r20_6 [1, 2, 3, 4, 9, 10, 75])
 (.cond 75 (.seq (.reg false r20_7 [8])
 (.ret)) (.skip)))
 (.seq (.reg false r20_8 [1, 2, 3, 4, 10, 11])
 (.seq (.reg false r20_9 [1, 2, 3, 4, 10, 11, 12])
 (.seq (.reg false r20_10 [1, 2, 3, 4, 10, 11, 12, 13])
 (.seq (.seq (.reg false r20_11 [1, 2, 3, 4, 10, 11, 12, 13, 81])
 (.block 0 (.loop [1, 2, 3, 4, 10, 11, 12, 13, 81] b20_1)))
 (.seq (.reg false r20_42 [8])
 (.ret))))))))))
def m20 : MFunc := ⟨3, [.tmp 8], c20⟩
def r21_1 : List MOper := [o1 3 (.box (.t 0)),
  o1 6 (.mov (.c (.bool false)))]
def r21_2 : List MOper := [o1 32 (.ld true 2 (.t 3)),
  o1 33 (.mov (.t 1)),
  o1 34 (.mov (.t 2)),
  o1 35 (.call 49 [(.t 32), (.t 33), (.t 34)]),
  o1 36 (.bin .gtr (.t 35) (.i 0)),
  o1 37 (.mov (.t 36)),
  o2 38 37 false (.fld 0 (.t 3)),
  o2 39 37 false (.ld false 1 (.t 38)),
  o2 40 37 false (.len (.t 39)),
  o2 41 37 false (.bin .gtr (.t 40) (.i 16)),
  o1 42 (.pick (.t 37) (.c (.bool true)) (.t 41))]
def r21_3 : List MOper := [o1 43 (.call 78 []),
  o1 6 (.mov (.t 43))]
def r21_4 : List MOper := [o1 45 (.ld true 2 (.t 3)),
  o1 46 (.mov (.t 1)),
  o1 47 (.mov (.t 2)),
  o1 48 (.call 79 [(.t 45), (.t 46), (.t 47)]),
  o1 44 (.mov (.t 48)),
  o1 49 (.ext (.t 44) 0),
  o1 50 (.ext (.t 44) 1),
  o1 7 (.mov (.t 49)),
  o1 8 (.mov (.t 50))]
def r21_5 : List MOper := [o1 52 (.ld true 2 (.t 3)),
  o1 53 (.mov (.t 1)),
  o1 54 (.mov (.t 2)),
  o1 55 (.call 80 [(.t 52), (.t 53), (.t 54)]),
  o1 51 (.mov (.t 55)),
  o1 56 (.ext (.t 51) 0),
  o1 57 (.ext (.t 51) 1),
  o1 58 (.ext (.t 51) 2),
  o1 9 (.alloc [.fz .isnil 1 [], .fz .isnil 1 []] []),
  n1 (.st 2 (.t 9) (.t 56)),
  o1 10 (.mov (.t 57)),
  o1 11 (.mov (.t 58))]
def r21_6 : List MOper := [o1 59 (.mov (.t 8)),
  o1 60 (.mov (.t 11)),
  o1 61 (.bin .neq (.t 59) (.t 60))]
def r21_7 : List MOper := [o1 6 (.mov (.c (.bool false)))]
def r21_8 : List MOper := [o1 62 (.mov (.t 11)),
  o1 63 (.bin .neq (.t 62) (.i 0))]
def r21_9 : List MOper := [o1 64 (.mov (.t 7)),
  o1 65 (.len (.t 64)),
  o1 66 (.bin .eql (.t 65) (.i 0)),
  o1 67 (.mov (.t 66)),
  o2 68 67 true (.call 78 []),
  o1 69 (.pick (.t 67) (.t 68) (.c (.bool false))),
  o1 6 (.mov (.t 69))]
def r21_10 : List MOper := [o1 71 (.ld true 2 (.t 3)),
  o1 72 (.mov (.t 1)),
  o1 73 (.mov (.t 2)),
  o1 74 (.call 52 [(.t 71), (.t 72), (.t 73)]),
  o1 70 (.mov (.t 74)),
  o1 75 (.ext (.t 70) 0),
  o1 76 (.ext (.t 70) 1),
  o1 12 (.mov (.t 75)),
  o1 13 (.mov (.t 76))]
def r21_11 : List MOper := [o1 77 (.mov (.t 1)),
  o1 78 (.mov (.t 2)),
  o1 79 (.call 81 [(.t 77), (.t 78)]),
  o1 14 (.mov (.t 79))]
def r21_12 : List MOper := [o1 80 (.mov (.t 12)),
  o1 81 (.len (.t 80)),
  o1 82 (.mov (.t 14)),
  o1 83 (.bin .mul (.t 81) (.t 82)),
  o1 84 (.mkrows 1 (.t 83)),
  o1 15 (.mov (.t 84))]
def r21_13 : List MOper := [o1 85 (.mov (.t 15)),
  o1 86 (.len (.t 85)),
  o1 87 (.mksl 1 (.bool false) (.t 86)),
  o1 16 (.mov (.t 87))]
def r21_14 : List MOper := [o1 17 (.tnil 1),
  o1 18 (.tnil 1)]
def r21_15 : List MOper := [o1 88 (.mov (.t 1)),
  o1 89 (.len (.t 88)),
  o1 90 (.mov (.i 0))]
def r21_16 : List MOper := [o1 91 (.bin .lss (.t 90) (.t 89))]
def r21_17 : List MOper := [o1 92 (.ixs 1 (.t 88) (.t 90)),
  o1 93 (.ld false 1 (.t 92)),
  o1 20 (.mov (.t 93))]
def r21_18 : List MOper := [o1 94 (.mov (.t 17)),
  o1 95 (.mov (.t 20)),
  o1 96 (.mov (.t 12)),
  o1 97 (.len (.t 96)),
  o1 98 (.mov (.t 14)),
  o1 99 (.call 82 [(.t 95), (.t 97), (.t 98)]),
  o1 100 (.bsl false 1 [(.t 99)]),
  o1 101 (.app 1 (.t 94) (.t 100)),
  o1 17 (.mov (.t 101))]
def r21_19 : List MOper := [o1 102 (.bin .add (.t 90) (.i 1)),
  o1 90 (.mov (.t 102))]
def b21_1 : MCode := .seq (.reg false r21_16 [1, 2, 3, 7, 12, 14, 15, 16, 17, 18, 88, 89, 90, 91])
 (.seq (.cond 91 (.skip) (.exit 0))
 (.seq (.block 1 (.seq (.reg false r21_17 [1, 2, 3, 7, 12, 14, 15, 16, 17, 18, 20, 88, 89, 90])
 (.reg false r21_18 [1, 2, 3, 7, 12, 14, 15, 16, 17, 18, 88, 89, 90])))
 (.reg false r21_19 [1, 2, 3, 7, 12, 14, 15, 16, 17, 18, 88, 89, 90])))
def r21_20 : List MOper := [o1 103 (.mov (.t 2)),
  o1 104 (.len (.t 103)),
  o1 105 (.mov (.i 0))]
def r21_21 : List MOper := [o1 106 (.bin .lss (.t 105) (.t 104))]
def r21_22 : List MOper := [o1 107 (.ixs 1 (.t 103) (.t 105)),
  o1 108 (.ld false 1 (.t 107)),
  o1 22 (.mov (.t 108))]
def r21_23 : List MOper := [o1 109 (.mov (.t 18)),
  o1 110 (.mov (.t 22)),
  o1 111 (.mov (.t 12)),
  o1 112 (.len (.t 111)),
  o1 113 (.mov (.t 14)),
  o1 114 (.call 82 [(.t 110), (.t 112), (.t 113)]),
  o1 115 (.bsl false 1 [(.t 114)]),
  o1 116 (.app 1 (.t 109) (.t 115)),
  o1 18 (.mov (.t 116))]
def r21_24 : List MOper := [o1 117 (.bin .add (.t 105) (.i 1)),
  o1 105 (.mov (.t 117))]
def b21_2 : MCode := .seq (.reg false r21_21 [1, 2, 3, 7, 12, 14, 15, 16, 17, 18, 103, 104, 105, 106])
 (.seq (.cond 106 (.skip) (.exit 2))
 (.seq (.block 3 (.seq (.reg false r21_22 [1, 2, 3, 7, 12, 14, 15, 16, 17, 18, 22, 103, 104, 105])
 (.reg false r21_23 [1, 2, 3, 7, 12, 14, 15, 16, 17, 18, 103, 104, 105])))
 (.reg false r21_24 [1, 2, 3, 7, 12, 14, 15, 16, 17, 18, 103, 104, 105])))
def r21_25 : List MOper := [o1 118 (.mov (.t 2)),
  o1 119 (.len (.t 118)),
  o1 120 (.bin .eql (.t 119) (.i 0))]
def r21_26 : List MOper := [o1 121 (.mov (.t 18)),
  o1 122 (.mov (.t 12)),
  o1 123 (.len (.t 122)),
  o1 124 (.call 83 [(.t 123)]),
  o1 125 (.mov (.t 12)),
  o1 126 (.len (.t 125)),
  o1 127 (.mov (.t 14)),
  o1 128 (.call 82 [(.t 124), (.t 126), (.t 127)]),
  o1 129 (.bsl false 1 [(.t 128)]),
  o1 130 (.app 1 (.t 121) (.t 129)),
  o1 18 (.mov (.t 130))]
def r21_27 : List MOper := [o1 23 (.mov (.i 0))]
def r21_28 : List MOper := [o1 131 (.mov (.t 12)),
  o1 132 (.len (.t 131)),
  o1 133 (.mov (.i 0))]
def r21_29 : List MOper := [o1 134 (.bin .lss (.t 133) (.t 132))]
def r21_30 : List MOper := [o1 135 (.mov (.t 133)),
  o1 24 (.mov (.t 135))]
def r21_31 : List MOper := [o1 136 (.mov (.t 14)),
  o1 137 (.mov (.i 0))]
def r21_32 : List MOper := [o1 138 (.bin .lss (.t 137) (.t 136))]
def r21_33 : List MOper := [o1 139 (.mov (.t 137)),
  o1 25 (.mov (.t 139))]
def r21_34 : List MOper := [o1 140 (.ld true 2 (.t 3)),
  o1 141 (.mov (.t 1)),
  o1 142 (.mov (.t 2)),
  o1 143 (.mov (.t 24)),
  o1 144 (.mov (.t 25)),
  o1 145 (.call 84 [(.t 140), (.t 141), (.t 142), (.t 143), (.t 144)]),
  o1 26 (.mov (.t 145))]
def r21_35 : List MOper := [o1 146 (.mov (.t 26)),
  o1 147 (.bin .lss (.t 146) (.i 0)),
  o1 148 (.mov (.t 147)),
  o2 149 148 false (.ld true 2 (.t 3)),
  o2 150 148 false (.mov (.t 1)),
  o2 151 148 false (.mov (.t 2)),
  o2 152 148 false (.mov (.t 24)),
  o2 153 148 false (.mov (.t 25)),
  o2 154 148 false (.call 85 [(.t 149), (.t 150), (.t 151), (.t 152), (.t 153)]),
  o2 155 148 false (.mov (.t 26)),
  o2 156 148 false (.bin .neq (.t 154) (.t 155)),
  o1 157 (.pick (.t 148) (.c (.bool true)) (.t 156))]
def r21_36 : List MOper := [o1 6 (.mov (.c (.bool false)))]
def r21_37 : List MOper := [o1 158 (.mov (.t 16)),
  o1 159 (.mov (.t 24)),
  o1 160 (.mov (.t 14)),
  o1 161 (.bin .mul (.t 159) (.t 160)),
  o1 162 (.mov (.t 25)),
  o1 163 (.bin .add (.t 161) (.t 162)),
  o1 164 (.mov (.t 12)),
  o1 165 (.mov (.t 24)),
  o1 166 (.ixs 1 (.t 164) (.t 165)),
  o1 167 (.ld false 1 (.t 166)),
  o1 168 (.not (.t 167)),
  o1 169 (.ixs 1 (.t 158) (.t 163)),
  n1 (.st 1 (.t 169) (.t 168))]
def r21_38 : List MOper := [o1 170 (.fld 0 (.t 3)),
  o1 171 (.ld false 1 (.t 170)),
  o1 172 (.mov (.t 24)),
  o1 173 (.ixs 1 (.t 171) (.t 172)),
  o1 174 (.ld false 1 (.t 173)),
  o1 175 (.bin .eql (.t 174) (.i 1)),
  o1 176 (.mov (.t 175)),
  o2 177 176 false (.mov (.t 12)),
  o2 178 176 false (.mov (.t 24)),
  o2 179 176 false (.ixs 1 (.t 177) (.t 178)),
  o2 180 176 false (.ld false 1 (.t 179)),
  o1 181 (.pick (.t 176) (.c (.bool true)) (.t 180))]
def r21_39 : List MOper := [o1 182 (.fld 1 (.t 3)),
  o1 183 (.ld false 1 (.t 182)),
  o1 184 (.mov (.t 24)),
  o1 185 (.ixs 1 (.t 183) (.t 184)),
  o1 186 (.ld false 1 (.t 185)),
  o1 187 (.len (.t 186)),
  o1 188 (.mov (.i 0))]
def r21_40 : List MOper := [o1 189 (.bin .lss (.t 188) (.t 187))]
def r21_41 : List MOper := [o1 190 (.ixs 1 (.t 186) (.t 188)),
  o1 191 (.ld false 1 (.t 190)),
  o1 28 (.mov (.t 191))]
def r21_42 : List MOper := [o1 192 (.mov (.t 15)),
  o1 193 (.mov (.t 24)),
  o1 194 (.mov (.t 14)),
  o1 195 (.bin .mul (.t 193) (.t 194)),
  o1 196 (.mov (.t 25)),
  o1 197 (.bin .add (.t 195) (.t 196)),
  o1 198 (.mov (.t 15)),
  o1 199 (.mov (.t 24)),
  o1 200 (.mov (.t 14)),
  o1 201 (.bin .mul (.t 199) (.t 200)),
  o1 202 (.mov (.t 25)),
  o1 203 (.bin .add (.t 201) (.t 202)),
  o1 204 (.ixs 1 (.t 198) (.t 203)),
  o1 205 (.ld false 1 (.t 204)),
  o1 206 (.mov (.t 28)),
  o1 207 (.mov (.t 14)),
  o1 208 (.bin .mul (.t 206) (.t 207)),
  o1 209 (.mov (.t 26)),
  o1 210 (.bin .add (.t 208) (.t 209)),
  o1 211 (.bsl false 1 [(.t 210)]),
  o1 212 (.app 1 (.t 205) (.t 211)),
  o1 213 (.ixs 1 (.t 192) (.t 197)),
  n1 (.st 1 (.t 213) (.t 212))]
def r21_43 : List MOper := [o1 214 (.bin .add (.t 188) (.i 1)),
  o1 188 (.mov (.t 214))]
def b21_5 : MCode := .seq (.reg false r21_40 [1, 2, 3, 7, 12, 14, 15, 16, 17, 18, 23, 24, 25, 26, 132, 133, 136, 137, 186, 187, 188, 189])
 (.seq (.cond 189 (.skip) (.exit 8))
 (.seq (.block 9 (.seq (.reg false r21_41 [1, 2, 3, 7, 12, 14, 15, 16, 17, 18, 23, 24, 25, 26, 28, 132, 133, 136, 137, 186, 187, 188])
 (.reg false r21_42 [1, 2, 3, 7, 12, 14, 15, 16, 17, 18, 23, 24, 25, 26, 132, 133, 136, 137, 186, 187, 188])))
 (.reg false r21_43 [1, 2, 3, 7, 12, 14, 15, 16, 17, 18, 23, 24, 25, 26, 132, 133, 136, 137, 186, 187, 188])))
def r21_44 : List MOper := [o1 215 (.mov (.t 23)),
  o1 216 (.mov (.t 7)),
  o1 217 (.len (.t 216)),
  o1 218 (.bin .geq (.t 215) (.t 217)),
  o1 219 (.mov (.t 218)),
  o2 220 219 false (.mov (.t 7)),
  o2 221 219 false (.mov (.t 23)),
  o2 222 219 false (.ixs 4 (.t 220) (.t 221)),
  o2 223 219 false (.fld 0 (.t 222)),
  o2 224 219 false (.ld false 1 (.t 223)),
  o2 225 219 false (.mov (.t 24)),
  o2 226 219 false (.bin .neq (.t 224) (.t 225)),
  o1 227 (.pick (.t 219) (.c (.bool true)) (.t 226)),
  o1 228 (.mov (.t 227)),
  o2 229 228 false (.mov (.t 7)),
  o2 230 228 false (.mov (.t 23)),
  o2 231 228 false (.ixs 4 (.t 229) (.t 230)),
  o2 232 228 false (.fld 1 (.t 231)),
  o2 233 228 false (.ld false 1 (.t 232)),
  o2 234 228 false (.mov (.t 25)),
  o2 235 228 false (.bin .neq (.t 233) (.t 234)),
  o1 236 (.pick (.t 228) (.c (.bool true)) (.t 235)),
  o1 237 (.mov (.t 236)),
  o2 238 237 false (.mov (.t 7)),
  o2 239 237 false (.mov (.t 23)),
  o2 240 237 false (.ixs 4 (.t 238) (.t 239)),
  o2 241 237 false (.fld 3 (.t 240)),
  o2 242 237 false (.ld false 1 (.t 241)),
  o2 243 237 false (.mov (.t 26)),
  o2 244 237 false (.bin .neq (.t 242) (.t 243)),
  o1 245 (.pick (.t 237) (.c (.bool true)) (.t 244))]
def r21_45 : List MOper := [o1 6 (.mov (.c (.bool false)))]
def r21_46 : List MOper := [o1 29 (.mov (.c (.bool false)))]
def r21_47 : List MOper := [o1 246 (.fld 1 (.t 3)),
  o1 247 (.ld false 1 (.t 246)),
  o1 248 (.mov (.t 24)),
  o1 249 (.ixs 1 (.t 247) (.t 248)),
  o1 250 (.ld false 1 (.t 249)),
  o1 251 (.len (.t 250)),
  o1 252 (.mov (.i 0))]
def r21_48 : List MOper := [o1 253 (.bin .lss (.t 252) (.t 251))]
def r21_49 : List MOper := [o1 254 (.ixs 1 (.t 250) (.t 252)),
  o1 255 (.ld false 1 (.t 254)),
  o1 31 (.mov (.t 255))]
def r21_50 : List MOper := [o1 256 (.mov (.t 29)),
  o1 257 (.mov (.t 256)),
  o2 258 257 false (.mov (.t 31)),
  o2 259 257 false (.mov (.t 7)),
  o2 260 257 false (.mov (.t 23)),
  o2 261 257 false (.ixs 4 (.t 259) (.t 260)),
  o2 262 257 false (.fld 2 (.t 261)),
  o2 263 257 false (.ld false 1 (.t 262)),
  o2 264 257 false (.bin .eql (.t 258) (.t 263)),
  o2 265 257 false (.mov (.t 264)),
  o2 266 265 true (.mov (.t 12)),
  o2 267 265 true (.mov (.t 31)),
  o2 268 265 true (.ixs 1 (.t 266) (.t 267)),
  o2 269 265 true (.ld false 1 (.t 268)),
  o2 270 265 true (.not (.t 269)),
  o2 271 257 false (.pick (.t 265) (.t 270) (.c (.bool false))),
  o1 272 (.pick (.t 257) (.c (.bool true)) (.t 271)),
  o1 29 (.mov (.t 272))]
def r21_51 : List MOper := [o1 273 (.bin .add (.t 252) (.i 1)),
  o1 252 (.mov (.t 273))]
def b21_6 : MCode := .seq (.reg false r21_48 [1, 2, 3, 7, 12, 14, 15, 16, 17, 18, 23, 24, 25, 26, 29, 132, 133, 136, 137, 250, 251, 252, 253])
 (.seq (.cond 253 (.skip) (.exit 10))
 (.seq (.block 11 (.seq (.reg false r21_49 [1, 2, 3, 7, 12, 14, 15, 16, 17, 18, 23, 24, 25, 26, 29, 31, 132, 133, 136, 137, 250, 251, 252])
 (.reg false r21_50 [1, 2, 3, 7, 12, 14, 15, 16, 17, 18, 23, 24, 25, 26, 29, 132, 133, 136, 137, 250, 251, 252])))
 (.reg false r21_51 [1, 2, 3, 7, 12, 14, 15, 16, 17, 18, 23, 24, 25, 26, 29, 132, 133, 136, 137, 250, 251, 252])))
def r21_52 : List MOper := [o1 274 (.mov (.t 29)),
  o1 275 (.not (.t 274))]
def r21_53 : List MOper := [o1 6 (.mov (.c (.bool false)))]
def r21_54 : List MOper := [o1 276 (.mov (.t 15)),
  o1 277 (.mov (.t 24)),
  o1 278 (.mov (.t 14)),
  o1 279 (.bin .mul (.t 277) (.t 278)),
  o1 280 (.mov (.t 25)),
  o1 281 (.bin .add (.t 279) (.t 280)),
  o1 282 (.mov (.t 7)),
  o1 283 (.mov (.t 23)),
  o1 284 (.ixs 4 (.t 282) (.t 283)),
  o1 285 (.fld 2 (.t 284)),
  o1 286 (.ld false 1 (.t 285)),
  o1 287 (.mov (.t 14)),
  o1 288 (.bin .mul (.t 286) (.t 287)),
  o1 289 (.mov (.t 26)),
  o1 290 (.bin .add (.t 288) (.t 289)),
  o1 291 (.bsl false 1 [(.t 290)]),
  o1 292 (.ixs 1 (.t 276) (.t 281)),
  n1 (.st 1 (.t 292) (.t 291))]
def r21_55 : List MOper := [o1 293 (.mov (.t 23)),
  o1 294 (.bin .add (.t 293) (.i 1)),
  o1 23 (.mov (.t 294))]
def r21_56 : List MOper := [o1 295 (.bin .add (.t 137) (.i 1)),
  o1 137 (.mov (.t 295))]
def b21_4 : MCode := .seq (.reg false r21_32 [1, 2, 3, 7, 12, 14, 15, 16, 17, 18, 23, 24, 132, 133, 136, 137, 138])
 (.seq (.cond 138 (.skip) (.exit 6))
 (.seq (.block 7 (.seq (.reg false r21_33 [1, 2, 3, 7, 12, 14, 15, 16, 17, 18, 23, 24, 25, 132, 133, 136, 137])
 (.seq (.reg false r21_34 [1, 2, 3, 7, 12, 14, 15, 16, 17, 18, 23, 24, 25, 26, 132, 133, 136, 137])
 (.seq (.seq (.reg false r21_35 [1, 2, 3, 7, 12, 14, 15, 16, 17, 18, 23, 24, 25, 26, 132, 133, 136, 137, 157])
 (.cond 157 (.seq (.reg false r21_36 [6])
 (.ret)) (.skip)))
 (.seq (.reg false r21_37 [1, 2, 3, 7, 12, 14, 15, 16, 17, 18, 23, 24, 25, 26, 132, 133, 136, 137])
 (.seq (.seq (.reg false r21_38 [1, 2, 3, 7, 12, 14, 15, 16, 17, 18, 23, 24, 25, 26, 132, 133, 136, 137, 181])
 (.cond 181 (.seq (.seq (.reg false r21_39 [1, 2, 3, 7, 12, 14, 15, 16, 17, 18, 23, 24, 25, 26, 132, 133, 136, 137, 186, 187, 188])
 (.block 8 (.loop [1, 2, 3, 7, 12, 14, 15, 16, 17, 18, 23, 24, 25, 26, 132, 133, 136, 137, 186, 187, 188] b21_5)))
 (.exit 7)) (.skip)))
 (.seq (.seq (.reg false r21_44 [1, 2, 3, 7, 12, 14, 15, 16, 17, 18, 23, 24, 25, 26, 132, 133, 136, 137, 245])
 (.cond 245 (.seq (.reg false r21_45 [6])
 (.ret)) (.skip)))
 (.seq (.reg false r21_46 [1, 2, 3, 7, 12, 14, 15, 16, 17, 18, 23, 24, 25, 26, 29, 132, 133, 136, 137])
 (.seq (.seq (.reg false r21_47 [1, 2, 3, 7, 12, 14, 15, 16, 17, 18, 23, 24, 25, 26, 29, 132, 133, 136, 137, 250, 251, 252])
 (.block 10 (.loop [1, 2, 3, 7, 12, 14, 15, 16, 17, 18, 23, 24, 25, 26, 29, 132, 133, 136, 137, 250, 251, 252] b21_6)))
 (.seq (.seq (.reg false r21_52 [1, 2, 3, 7, 12, 14, 15, 16, 17, 18, 23, 24, 25, 26, 132, 133, 136, 137, 275])
 (.cond 275 (.seq (.reg false r21_53 [6])
 (.ret)) (.skip)))
 (.seq (.reg false r21_54 [1, 2, 3, 7, 12, 14, 15, 16, 17, 18, 23, 24, 132, 133, 136, 137])
 (.reg false r21_55 [1, 2, 3, 7, 12, 14, 15, 16, 17, 18, 23, 24, 132, 133, 136, 137]))))))))))))
 (.reg false r21_56 [1, 2, 3, 7, 12, 14, 15, 16, 17, 18, 23, 24, 132, 133, 136, 137])))
def r21_57 : List MOper := [o1 296 (.bin .add (.t 133) (.i 1)),
  o1 133 (.mov (.t 296))]
def b21_3 : MCode := .seq (.reg false r21_29 [1, 2, 3, 7, 12, 14, 15, 16, 17, 18, 23, 132, 133, 134])
 (.seq (.cond 134 (.skip) (.exit 4))
 (.seq (.block 5 (.seq (.reg false r21_30 [1, 2, 3, 7, 12, 14, 15, 16, 17, 18, 23, 24, 132, 133])
 (.seq (.reg false r21_31 [1, 2, 3, 7, 12, 14, 15, 16, 17, 18, 23, 24, 132, 133, 136, 137])
 (.block 6 (.loop [1, 2, 3, 7, 12, 14, 15, 16, 17, 18, 23, 24, 132, 133, 136, 137] b21_4)))))
 (.reg false r21_57 [1, 2, 3, 7, 12, 14, 15, 16, 17, 18, 23, 132, 133])))
def r21_58 : List MOper := [o1 297 (.mov (.t 23)),
  o1 298 (.mov (.t 7)),
  o1 299 (.len (.t 298)),
  o1 300 (.bin .eql (.t 297) (.t 299)),
  o1 301 (.mov (.t 300)),
  o2 302 301 true (.mov (.t 15)),
  o2 303 301 true (.mov (.t 16)),
  o2 304 301 true (.mov (.t 17)),
  o2 305 301 true (.mov (.t 18)),
  o2 306 301 true (.call 86 [(.t 302), (.t 303), (.t 304), (.t 305)]),
  o1 307 (.pick (.t 301) (.t 306) (.c (.bool false))),
  o1 308 (.mov (.t 307)),
  o2 309 308 true (.call 78 []),
  o1 310 (.pick (.t 308) (.t 309) (.c (.bool false))),
  o1 6 (.mov (.t 310))]
def c21 : MCode := .seq (.reg false r21_1 [1, 2, 3])
 (.seq (.seq (.reg false r21_2 [1, 2, 3, 42])
 (.cond 42 (.seq (.reg false r21_3 [6])
 (.ret)) (.skip)))
 (.seq (.reg false r21_4 [1, 2, 3, 7, 8])
 (.seq (.reg false r21_5 [1, 2, 3, 7, 8, 11])
 (.seq (.seq (.reg false r21_6 [1, 2, 3, 7, 11, 61])
 (.cond 61 (.seq (.reg false r21_7 [6])
 (.ret)) (.skip)))
 (.seq (.seq (.reg false r21_8 [1, 2, 3, 7, 63])
 (.cond 63 (.seq (.reg false r21_9 [6])
 (.ret)) (.skip)))
 (.seq (.reg false r21_10 [1, 2, 3, 7, 12])
 (.seq (.reg false r21_11 [1, 2, 3, 7, 12, 14])
 (.seq (.reg false r21_12 [1, 2, 3, 7, 12, 14, 15])
 (.seq (.reg false r21_13 [1, 2, 3, 7, 12, 14, 15, 16])
 (.seq (.reg false r21_14 [1, 2, 3, 7, 12, 14, 15, 16, 17, 18])
 (.seq (.seq (.reg false r21_15 [1, 2, 3, 7, 12, 14, 15, 16, 17, 18, 88, 89, 90])
 (.block 0 (.loop [1, 2, 3, 7, 12, 14, 15, 16, 17, 18, 88, 89, 90] b21_1)))
 (.seq (.seq (.reg false r21_20 [1, 2, 3, 7, 12, 14, 15, 16, 17, 18, 103, 104, 105])
 (.block 2 (.loop [1, 2, 3, 7, 12, 14, 15, 16, 17, 18, 103, 104, 105] b21_2)))
 (.seq (.seq (.reg false r21_25 [1, 2, 3, 7, 12, 14, 15, 16, 17, 18, 120])
 (.cond 120 (.reg false r21_26 [1, 2, 3, 7, 12, 14, 15, 16, 17, 18]) (.skip)))
 (.seq (.reg false r21_27 [1, 2, 3, 7, 12, 14, 15, 16, 17, 18, 23])
 (.seq (.seq (.reg false r21_28 [1, 2, 3, 7, 12, 14, 15, 16, 17, 18, 23, 132, 133])
 (.block 4 (.loop [1, 2, 3, 7, 12, 14, 15, 16, 17, 18, 23, 132, 133] b21_3)))
 (.seq (.reg false r21_58 [6])
 (.ret)))))))))))))))))
def m21 : MFunc := ⟨3, [.tmp 6], c21⟩
def r22_1 : List MOper := [o1 5 (.box (.t 0)),
  o1 10 (.mov (.c (.bool false)))]
def r22_2 : List MOper := [o1 11 (.ld true 2 (.t 5)),
  o1 12 (.mov (.t 1)),
  o1 13 (.mov (.t 2)),
  o1 14 (.call 49 [(.t 11), (.t 12), (.t 13)]),
  o1 15 (.bin .gtr (.t 14) (.i 0))]
def r22_3 : List MOper := [o1 16 (.call 78 []),
  o1 10 (.mov (.t 16))]
def q22_4 : List MOper := [ox (some 17) none .R false (.ld true 2 (.t 5)),
  o1 18 (.mov (.t 1)),
  o1 19 (.mov (.t 2)),
  o1 20 (.mov (.t 3)),
  o1 21 (.mov (.t 4)),
  ox (some 22) none .R false (.call 85 [(.t 17), (.t 18), (.t 19), (.t 20), (.t 21)]),
  ox (some 23) none .R false (.ld true 2 (.t 5)),
  o1 24 (.mov (.t 1)),
  o1 25 (.mov (.t 2)),
  o1 26 (.mov (.t 3)),
  o1 27 (.mov (.t 4)),
  ox (some 28) none .R false (.call 84 [(.t 23), (.t 24), (.t 25), (.t 26), (.t 27)]),
  o1 29 (.bin .eql (.t 22) (.t 28)),
  o1 30 (.mov (.t 29)),
  ox (some 31) (some (30, true)) .R false (.call 78 []),
  o1 32 (.pick (.t 30) (.t 31) (.c (.bool false))),
  o1 10 (.mov (.t 32))]
def r22_4 : List MOper := q22_4
def c22 : MCode := .seq (.reg false r22_1 [1, 2, 3, 4, 5])
 (.seq (.seq (.reg false r22_2 [1, 2, 3, 4, 5, 15])
 (.cond 15 (.seq (.reg false r22_3 [10])
 (.ret)) (.skip)))
 (.seq (.reg true r22_4 [10])
 (.ret)))
def m22 : MFunc := ⟨3, [.tmp 10], c22⟩
def r23_1 : List MOper := [o1 3 (.box (.t 0)),
  o1 6 (.mov (.c (.bool false)))]
def r23_2 : List MOper := [o1 17 (.ld true 2 (.t 3)),
  o1 18 (.mov (.t 1)),
  o1 19 (.mov (.t 2)),
  o1 20 (.call 49 [(.t 17), (.t 18), (.t 19)]),
  o1 21 (.bin .gtr (.t 20) (.i 0)),
  o1 22 (.mov (.t 21)),
  o2 23 22 false (.fld 0 (.t 3)),
  o2 24 22 false (.ld false 1 (.t 23)),
  o2 25 22 false (.len (.t 24)),
  o2 26 22 false (.bin .gtr (.t 25) (.i 16)),
  o1 27 (.pick (.t 22) (.c (.bool true)) (.t 26))]
def r23_3 : List MOper := [o1 28 (.call 78 []),
  o1 6 (.mov (.t 28))]
def r23_4 : List MOper := [o1 30 (.ld true 2 (.t 3)),
  o1 31 (.mov (.t 1)),
  o1 32 (.mov (.t 2)),
  o1 33 (.call 79 [(.t 30), (.t 31), (.t 32)]),
  o1 29 (.mov (.t 33)),
  o1 34 (.ext (.t 29) 0),
  o1 35 (.ext (.t 29) 1),
  o1 7 (.mov (.t 34)),
  o1 8 (.mov (.t 35))]
def r23_5 : List MOper := [o1 37 (.ld true 2 (.t 3)),
  o1 38 (.mov (.t 1)),
  o1 39 (.mov (.t 2)),
  o1 40 (.call 52 [(.t 37), (.t 38), (.t 39)]),
  o1 36 (.mov (.t 40)),
  o1 41 (.ext (.t 36) 0),
  o1 42 (.ext (.t 36) 1),
  o1 9 (.mov (.t 41)),
  o1 10 (.mov (.t 42))]
def r23_6 : List MOper := [o1 43 (.mov (.t 1)),
  o1 44 (.mov (.t 2)),
  o1 45 (.call 81 [(.t 43), (.t 44)]),
  o1 11 (.mov (.t 45))]
def r23_7 : List MOper := [o1 46 (.mov (.t 8)),
  o1 47 (.bin .neq (.t 46) (.i 0)),
  o1 48 (.mov (.t 47)),
  o2 49 48 false (.mov (.t 9)),
  o2 50 48 false (.isn (.t 49)),
  o1 51 (.pick (.t 48) (.c (.bool true)) (.t 50))]
def r23_8 : List MOper := [o1 52 (.mov (.t 7)),
  o1 53 (.len (.t 52)),
  o1 54 (.bin .eql (.t 53) (.i 0)),
  o1 55 (.mov (.t 54)),
  o2 56 55 true (.call 78 []),
  o1 57 (.pick (.t 55) (.t 56) (.c (.bool false))),
  o1 6 (.mov (.t 57))]
def r23_9 : List MOper := [o1 12 (.mov (.i 0))]
def r23_10 : List MOper := [o1 58 (.mov (.t 9)),
  o1 59 (.len (.t 58)),
  o1 60 (.mov (.i 0))]
def r23_11 : List MOper := [o1 61 (.bin .lss (.t 60) (.t 59))]
def r23_12 : List MOper := [o1 62 (.mov (.t 60)),
  o1 63 (.ixs 1 (.t 58) (.t 60)),
  o1 64 (.ld false 1 (.t 63)),
  o1 13 (.mov (.t 62)),
  o1 14 (.mov (.t 64))]
def r23_13 : List MOper := [o1 65 (.mov (.t 14)),
  o1 66 (.not (.t 65)),
  o1 67 (.mov (.t 66)),
  o2 68 67 true (.fld 0 (.t 3)),
  o2 69 67 true (.ld false 1 (.t 68)),
  o2 70 67 true (.mov (.t 13)),
  o2 71 67 true (.ixs 1 (.t 69) (.t 70)),
  o2 72 67 true (.ld false 1 (.t 71)),
  o2 73 67 true (.bin .eql (.t 72) (.i 0)),
  o1 74 (.pick (.t 67) (.t 73) (.c (.bool false)))]
def r23_14 : List MOper := [o1 75 (.mov (.t 12)),
  o1 76 (.mov (.t 11)),
  o1 77 (.bin .add (.t 75) (.t 76)),
  o1 12 (.mov (.t 77))]
def r23_15 : List MOper := [o1 78 (.bin .add (.t 60) (.i 1)),
  o1 60 (.mov (.t 78))]
def b23_1 : MCode := .seq (.reg false r23_11 [3, 7, 9, 11, 12, 58, 59, 60, 61])
 (.seq (.cond 61 (.skip) (.exit 0))
 (.seq (.block 1 (.seq (.reg false r23_12 [3, 7, 9, 11, 12, 13, 14, 58, 59, 60])
 (.seq (.reg false r23_13 [3, 7, 9, 11, 12, 58, 59, 60, 74])
 (.cond 74 (.reg false r23_14 [3, 7, 9, 11, 12, 58, 59, 60]) (.skip)))))
 (.reg false r23_15 [3, 7, 9, 11, 12, 58, 59, 60])))
def r23_16 : List MOper := [o1 79 (.mov (.t 7)),
  o1 80 (.len (.t 79)),
  o1 81 (.mov (.i 0))]
def r23_17 : List MOper := [o1 82 (.bin .lss (.t 81) (.t 80))]
def r23_18 : List MOper := [o1 83 (.mov (.t 81)),
  o1 84 (.ixs 4 (.t 79) (.t 81)),
  o1 85 (.ld true 4 (.t 84)),
  o1 16 (.alloc [.int .i64 0, .int .i64 0, .int .i64 0, .int .i64 0] []),
  o1 15 (.mov (.t 83)),
  n1 (.st 4 (.t 16) (.t 85))]
def q23_19 : List MOper := [o1 86 (.fld 0 (.t 16)),
  ox (some 87) none .R false (.ld false 1 (.t 86)),
  o1 88 (.bin .lss (.t 87) (.i 0)),
  o1 89 (.mov (.t 88)),
  o2 90 89 false (.fld 0 (.t 16)),
  ox (some 91) (some (89, false)) .R false (.ld false 1 (.t 90)),
  o2 92 89 false (.mov (.t 9)),
  o2 93 89 false (.len (.t 92)),
  o2 94 89 false (.bin .geq (.t 91) (.t 93)),
  o1 95 (.pick (.t 89) (.c (.bool true)) (.t 94)),
  o1 96 (.mov (.t 95)),
  o2 97 96 false (.mov (.t 9)),
  o2 98 96 false (.fld 0 (.t 16)),
  ox (some 99) (some (96, false)) .R false (.ld false 1 (.t 98)),
  o2 100 96 false (.ixs 1 (.t 97) (.t 99)),
  ox (some 101) (some (96, false)) .R false (.ld false 1 (.t 100)),
  o1 102 (.pick (.t 96) (.c (.bool true)) (.t 101)),
  o1 103 (.mov (.t 102)),
  o2 104 103 false (.fld 2 (.t 16)),
  ox (some 105) (some (103, false)) .R false (.ld false 1 (.t 104)),
  o2 106 103 false (.bin .lss (.t 105) (.i 0)),
  o1 107 (.pick (.t 103) (.c (.bool true)) (.t 106)),
  o1 108 (.mov (.t 107)),
  o2 109 108 false (.fld 2 (.t 16)),
  ox (some 110) (some (108, false)) .R false (.ld false 1 (.t 109)),
  o2 111 108 false (.mov (.t 9)),
  o2 112 108 false (.len (.t 111)),
  o2 113 108 false (.bin .geq (.t 110) (.t 112)),
  o1 114 (.pick (.t 108) (.c (.bool true)) (.t 113)),
  o1 115 (.mov (.t 114)),
  o2 116 115 false (.mov (.t 9)),
  o2 117 115 false (.fld 2 (.t 16)),
  ox (some 118) (some (115, false)) .R false (.ld false 1 (.t 117)),
  o2 119 115 false (.ixs 1 (.t 116) (.t 118)),
  ox (some 120) (some (115, false)) .R false (.ld false 1 (.t 119)),
  o1 121 (.pick (.t 115) (.c (.bool true)) (.t 120)),
  o1 122 (.mov (.t 121)),
  o2 123 122 false (.fld 1 (.t 16)),
  ox (some 124) (some (122, false)) .R false (.ld false 1 (.t 123)),
  o2 125 122 false (.bin .lss (.t 124) (.i 0)),
  o1 126 (.pick (.t 122) (.c (.bool true)) (.t 125)),
  o1 127 (.mov (.t 126)),
  o2 128 127 false (.fld 1 (.t 16)),
  ox (some 129) (some (127, false)) .R false (.ld false 1 (.t 128)),
  o2 130 127 false (.mov (.t 11)),
  o2 131 127 false (.bin .geq (.t 129) (.t 130)),
  o1 132 (.pick (.t 127) (.c (.bool true)) (.t 131)),
  o1 133 (.mov (.t 132)),
  o2 134 133 false (.mov (.t 15)),
  o2 135 133 false (.bin .gtr (.t 134) (.i 0)),
  o2 136 133 false (.mov (.t 135)),
  o2 137 136 true (.fld 0 (.t 16)),
  ox (some 138) (some (136, true)) .R false (.ld false 1 (.t 137)),
  o2 139 136 true (.mov (.t 7)),
  o2 140 136 true (.mov (.t 15)),
  o2 141 136 true (.bin .sub (.t 140) (.i 1)),
  o2 142 136 true (.ixs 4 (.t 139) (.t 141)),
  o2 143 136 true (.fld 0 (.t 142)),
  ox (some 144) (some (136, true)) .R false (.ld false 1 (.t 143)),
  o2 145 136 true (.bin .lss (.t 138) (.t 144)),
  o2 146 136 true (.mov (.t 145)),
  o2 147 146 false (.fld 0 (.t 16)),
  ox (some 148) (some (146, false)) .R false (.ld false 1 (.t 147)),
  o2 149 146 false (.mov (.t 7)),
  o2 150 146 false (.mov (.t 15)),
  o2 151 146 false (.bin .sub (.t 150) (.i 1)),
  o2 152 146 false (.ixs 4 (.t 149) (.t 151)),
  o2 153 146 false (.fld 0 (.t 152)),
  ox (some 154) (some (146, false)) .R false (.ld false 1 (.t 153)),
  o2 155 146 false (.bin .eql (.t 148) (.t 154)),
  o2 156 146 false (.mov (.t 155)),
  o2 157 156 true (.fld 1 (.t 16)),
  ox (some 158) (some (156, true)) .R false (.ld false 1 (.t 157)),
  o2 159 156 true (.mov (.t 7)),
  o2 160 156 true (.mov (.t 15)),
  o2 161 156 true (.bin .sub (.t 160) (.i 1)),
  o2 162 156 true (.ixs 4 (.t 159) (.t 161)),
  o2 163 156 true (.fld 1 (.t 162)),
  ox (some 164) (some (156, true)) .R false (.ld false 1 (.t 163)),
  o2 165 156 true (.bin .leq (.t 158) (.t 164)),
  o2 166 146 false (.pick (.t 156) (.t 165) (.c (.bool false))),
  o2 167 136 true (.pick (.t 146) (.c (.bool true)) (.t 166)),
  o2 168 133 false (.pick (.t 136) (.t 167) (.c (.bool false))),
  o1 169 (.pick (.t 133) (.c (.bool true)) (.t 168))]
def r23_19 : List MOper := q23_19
def r23_20 : List MOper := [o1 6 (.mov (.c (.bool false)))]
def r23_21 : List MOper := [o1 170 (.bin .add (.t 81) (.i 1)),
  o1 81 (.mov (.t 170))]
def b23_2 : MCode := .seq (.reg false r23_17 [7, 9, 11, 12, 79, 80, 81, 82])
 (.seq (.cond 82 (.skip) (.exit 2))
 (.seq (.block 3 (.seq (.reg false r23_18 [7, 9, 11, 12, 15, 16, 79, 80, 81])
 (.seq (.reg true r23_19 [7, 9, 11, 12, 79, 80, 81, 169])
 (.cond 169 (.seq (.reg false r23_20 [6])
 (.ret)) (.skip)))))
 (.reg false r23_21 [7, 9, 11, 12, 79, 80, 81])))
def r23_22 : List MOper := [o1 171 (.mov (.t 7)),
  o1 172 (.len (.t 171)),
  o1 173 (.mov (.t 12)),
  o1 174 (.bin .eql (.t 172) (.t 173)),
  o1 175 (.mov (.t 174)),
  o2 176 175 true (.call 78 []),
  o1 177 (.pick (.t 175) (.t 176) (.c (.bool false))),
  o1 6 (.mov (.t 177))]
def c23 : MCode := .seq (.reg false r23_1 [1, 2, 3])
 (.seq (.seq (.reg false r23_2 [1, 2, 3, 27])
 (.cond 27 (.seq (.reg false r23_3 [6])
 (.ret)) (.skip)))
 (.seq (.reg false r23_4 [1, 2, 3, 7, 8])
 (.seq (.reg false r23_5 [1, 2, 3, 7, 8, 9])
 (.seq (.reg false r23_6 [3, 7, 8, 9, 11])
 (.seq (.seq (.reg false r23_7 [3, 7, 9, 11, 51])
 (.cond 51 (.seq (.reg false r23_8 [6])
 (.ret)) (.skip)))
 (.seq (.reg false r23_9 [3, 7, 9, 11, 12])
 (.seq (.seq (.reg false r23_10 [3, 7, 9, 11, 12, 58, 59, 60])
 (.block 0 (.loop [3, 7, 9, 11, 12, 58, 59, 60] b23_1)))
 (.seq (.seq (.reg false r23_16 [7, 9, 11, 12, 79, 80, 81])
 (.block 2 (.loop [7, 9, 11, 12, 79, 80, 81] b23_2)))
 (.seq (.reg false r23_22 [6])
 (.ret))))))))))
def m23 : MFunc := ⟨3, [.tmp 6], c23⟩
def r24_1 : List MOper := [o1 5 (.box (.t 0)),
  o1 10 (.mov (.c (.bool false)))]
def r24_2 : List MOper := [o1 31 (.ld true 2 (.t 5)),
  o1 32 (.mov (.t 1)),
  o1 33 (.mov (.t 2)),
  o1 34 (.call 49 [(.t 31), (.t 32), (.t 33)]),
  o1 35 (.bin .gtr (.t 34) (.i 0)),
  o1 36 (.mov (.t 35)),
  o2 37 36 false (.fld 0 (.t 5)),
  o2 38 36 false (.ld false 1 (.t 37)),
  o2 39 36 false (.len (.t 38)),
  o2 40 36 false (.bin .eql (.t 39) (.i 0)),
  o1 41 (.pick (.t 36) (.c (.bool true)) (.t 40)),
  o1 42 (.mov (.t 41)),
  o2 43 42 false (.fld 0 (.t 5)),
  o2 44 42 false (.ld false 1 (.t 43)),
  o2 45 42 false (.len (.t 44)),
  o2 46 42 false (.bin .gtr (.t 45) (.i 16)),
  o1 47 (.pick (.t 42) (.c (.bool true)) (.t 46)),
  o1 48 (.mov (.t 47)),
  o2 49 48 false (.mov (.t 4)),
  o2 50 48 false (.len (.t 49)),
  o2 51 48 false (.bin .lss (.t 50) (.i 1)),
  o1 52 (.pick (.t 48) (.c (.bool true)) (.t 51)),
  o1 53 (.mov (.t 52)),
  o2 54 53 false (.mov (.t 4)),
  o2 55 53 false (.len (.t 54)),
  o2 56 53 false (.bin .gtr (.t 55) (.i 8)),
  o1 57 (.pick (.t 53) (.c (.bool true)) (.t 56))]
def r24_3 : List MOper := [o1 58 (.call 78 []),
  o1 10 (.mov (.t 58))]
def r24_4 : List MOper := [o1 60 (.ld true 2 (.t 5)),
  o1 61 (.mov (.t 1)),
  o1 62 (.mov (.t 2)),
  o1 63 (.call 79 [(.t 60), (.t 61), (.t 62)]),
  o1 59 (.mov (.t 63)),
  o1 64 (.ext (.t 59) 0),
  o1 65 (.ext (.t 59) 1),
  o1 11 (.mov (.t 64)),
  o1 12 (.mov (.t 65))]
def r24_5 : List MOper := [o1 67 (.ld true 2 (.t 5)),
  o1 68 (.mov (.t 1)),
  o1 69 (.mov (.t 2)),
  o1 70 (.call 52 [(.t 67), (.t 68), (.t 69)]),
  o1 66 (.mov (.t 70)),
  o1 71 (.ext (.t 66) 0),
  o1 72 (.ext (.t 66) 1),
  o1 13 (.mov (.t 71)),
  o1 14 (.mov (.t 72))]
def r24_6 : List MOper := [o1 73 (.mov (.t 13)),
  o1 74 (.isn (.t 73)),
  o1 75 (.mov (.t 74)),
  o2 76 75 false (.mov (.t 12)),
  o2 77 75 false (.bin .neq (.t 76) (.i 0)),
  o1 78 (.pick (.t 75) (.c (.bool true)) (.t 77))]
def r24_7 : List MOper := [o1 79 (.call 78 []),
  o1 10 (.mov (.t 79))]
def r24_8 : List MOper := [o1 80 (.mov (.t 3)),
  o1 81 (.cvt .u64 (.t 80)),
  o1 82 (.mov (.t 13)),
  o1 83 (.len (.t 82)),
  o1 84 (.cvt .u64 (.t 83)),
  o1 85 (.bin .rem (.t 81) (.t 84)),
  o1 86 (.cvt .i64 (.t 85)),
  o1 3 (.mov (.t 86))]
def r24_9 : List MOper := [o1 87 (.mov (.t 13)),
  o1 88 (.mov (.t 3)),
  o1 89 (.ixs 1 (.t 87) (.t 88)),
  o1 90 (.ld false 1 (.t 89))]
def r24_10 : List MOper := [o1 91 (.call 78 []),
  o1 10 (.mov (.t 91))]
def r24_11 : List MOper := [o1 92 (.mkmap),
  o1 15 (.mov (.t 92))]
def r24_12 : List MOper := [o1 93 (.mov (.t 11)),
  o1 94 (.len (.t 93)),
  o1 95 (.mov (.i 0))]
def r24_13 : List MOper := [o1 96 (.bin .lss (.t 95) (.t 94))]
def r24_14 : List MOper := [o1 97 (.ixs 4 (.t 93) (.t 95)),
  o1 98 (.ld true 4 (.t 97)),
  o1 17 (.alloc [.int .i64 0, .int .i64 0, .int .i64 0, .int .i64 0] []),
  n1 (.st 4 (.t 17) (.t 98))]
def r24_15 : List MOper := [o1 99 (.mov (.t 15)),
  o1 100 (.fld 0 (.t 17)),
  o1 101 (.ld false 1 (.t 100)),
  o1 102 (.fld 1 (.t 17)),
  o1 103 (.ld false 1 (.t 102)),
  o1 104 (.build [.int .i64 0, .int .i64 0] [] [(0, 1, (.t 101)), (1, 1, (.t 103))]),
  o1 105 (.ld true 4 (.t 17)),
  n1 (.mup (some 2) (.t 99) (.t 104) (.t 105))]
def r24_16 : List MOper := [o1 106 (.bin .add (.t 95) (.i 1)),
  o1 95 (.mov (.t 106))]
def b24_1 : MCode := .seq (.reg false r24_13 [1, 2, 3, 4, 5, 15, 93, 94, 95, 96])
 (.seq (.cond 96 (.skip) (.exit 0))
 (.seq (.block 1 (.seq (.reg false r24_14 [1, 2, 3, 4, 5, 15, 17, 93, 94, 95])
 (.reg false r24_15 [1, 2, 3, 4, 5, 15, 93, 94, 95])))
 (.reg false r24_16 [1, 2, 3, 4, 5, 15, 93, 94, 95])))
def r24_17 : List MOper := [o1 107 (.mkmap),
  o1 18 (.mov (.t 107))]
def r24_18 : List MOper := [o1 19 (.tnil 1)]
def r24_19 : List MOper := [o1 20 (.mov (.i 0))]
def r24_20 : List MOper := [o1 108 (.mov (.i 0))]
def r24_21 : List MOper := [o1 109 (.bin .lss (.t 108) (.i 2049))]
def r24_22 : List MOper := [o1 110 (.mov (.t 108)),
  o1 21 (.mov (.t 110))]
def r24_23 : List MOper := [o1 111 (.mov (.t 21)),
  o1 112 (.mov (.t 4)),
  o1 113 (.len (.t 112)),
  o1 114 (.bin .rem (.t 111) (.t 113)),
  o1 22 (.mov (.t 114))]
def r24_24 : List MOper := [o1 115 (.mov (.t 18)),
  o1 116 (.mov (.t 3)),
  o1 117 (.mov (.t 20)),
  o1 118 (.mov (.t 22)),
  o1 119 (.build [.int .i64 0, .int .i64 0, .int .i64 0] [] [(0, 1, (.t 116)), (1, 1, (.t 117)), (2, 1, (.t 118))]),
  o1 120 (.lkp (some 3) (.int .i64 0) (.t 115) (.t 119)),
  o1 23 (.mov (.t 120))]
def r24_25 : List MOper := [o1 121 (.mov (.t 23)),
  o1 122 (.bin .gtr (.t 121) (.i 0))]
def r24_26 : List MOper := [o1 123 (.mov (.t 1)),
  o1 124 (.mov (.t 19)),
  o1 125 (.mov (.t 23)),
  o1 126 (.bin .sub (.t 125) (.i 1)),
  o1 127 (.slc 1 (.t 124) (some (.t 126)) none),
  o1 128 (.call 87 [(.t 123), (.t 127)]),
  o1 129 (.mov (.t 128)),
  o2 130 129 true (.mov (.t 2)),
  o2 131 129 true (.len (.t 130)),
  o2 132 129 true (.bin .gtr (.t 131) (.i 0)),
  o1 133 (.pick (.t 129) (.t 132) (.c (.bool false))),
  o1 134 (.mov (.t 133)),
  o2 135 134 true (.mov (.t 2)),
  o2 136 134 true (.mov (.t 19)),
  o2 137 134 true (.mov (.t 23)),
  o2 138 134 true (.bin .sub (.t 137) (.i 1)),
  o2 139 134 true (.slc 1 (.t 136) (some (.t 138)) none),
  o2 140 134 true (.call 87 [(.t 135), (.t 139)]),
  o2 141 134 true (.not (.t 140)),
  o1 142 (.pick (.t 134) (.t 141) (.c (.bool false))),
  o1 143 (.mov (.t 142)),
  o2 144 143 true (.call 78 []),
  o1 145 (.pick (.t 143) (.t 144) (.c (.bool false))),
  o1 10 (.mov (.t 145))]
def r24_27 : List MOper := [o1 146 (.mov (.t 18)),
  o1 147 (.mov (.t 3)),
  o1 148 (.mov (.t 20)),
  o1 149 (.mov (.t 22)),
  o1 150 (.build [.int .i64 0, .int .i64 0, .int .i64 0] [] [(0, 1, (.t 147)), (1, 1, (.t 148)), (2, 1, (.t 149))]),
  o1 151 (.mov (.t 19)),
  o1 152 (.len (.t 151)),
  o1 153 (.bin .add (.t 152) (.i 1)),
  n1 (.mup (some 3) (.t 146) (.t 150) (.t 153))]
def r24_28 : List MOper := [o1 154 (.mov (.t 19)),
  o1 155 (.mov (.t 3)),
  o1 156 (.bsl false 1 [(.t 155)]),
  o1 157 (.app 1 (.t 154) (.t 156)),
  o1 19 (.mov (.t 157))]
def r24_29 : List MOper := [o1 158 (.fld 1 (.t 5)),
  o1 159 (.ld false 1 (.t 158)),
  o1 160 (.mov (.t 3)),
  o1 161 (.ixs 1 (.t 159) (.t 160)),
  o1 162 (.ld false 1 (.t 161)),
  o1 24 (.mov (.t 162))]
def r24_30 : List MOper := [o1 163 (.mov (.t 24)),
  o1 164 (.len (.t 163)),
  o1 165 (.bin .eql (.t 164) (.i 0))]
def r24_31 : List MOper := [o1 166 (.fld 0 (.t 5)),
  o1 167 (.ld false 1 (.t 166)),
  o1 168 (.mov (.t 3)),
  o1 169 (.ixs 1 (.t 167) (.t 168)),
  o1 170 (.ld false 1 (.t 169)),
  o1 171 (.bin .eql (.t 170) (.i 1)),
  o1 172 (.mov (.t 171)),
  o2 173 172 true (.call 78 []),
  o1 174 (.pick (.t 172) (.t 173) (.c (.bool false))),
  o1 10 (.mov (.t 174))]
def r24_32 : List MOper := [o1 175 (.ld true 2 (.t 5)),
  o1 176 (.mov (.t 1)),
  o1 177 (.mov (.t 2)),
  o1 178 (.mov (.t 3)),
  o1 179 (.mov (.t 20)),
  o1 180 (.call 84 [(.t 175), (.t 176), (.t 177), (.t 178), (.t 179)]),
  o1 25 (.mov (.t 180))]
def r24_33 : List MOper := [o1 181 (.mov (.t 24)),
  o1 182 (.mov (.t 4)),
  o1 183 (.mov (.t 22)),
  o1 184 (.ixs 1 (.t 182) (.t 183)),
  o1 185 (.ld false 1 (.t 184)),
  o1 186 (.cvt .u64 (.t 185)),
  o1 187 (.mov (.t 24)),
  o1 188 (.len (.t 187)),
  o1 189 (.cvt .u64 (.t 188)),
  o1 190 (.bin .rem (.t 186) (.t 189)),
  o1 191 (.cvt .i64 (.t 190)),
  o1 192 (.ixs 1 (.t 181) (.t 191)),
  o1 193 (.ld false 1 (.t 192)),
  o1 26 (.mov (.t 193))]
def r24_34 : List MOper := [o1 194 (.fld 0 (.t 5)),
  o1 195 (.ld false 1 (.t 194)),
  o1 196 (.mov (.t 3)),
  o1 197 (.ixs 1 (.t 195) (.t 196)),
  o1 198 (.ld false 1 (.t 197)),
  o1 199 (.bin .eql (.t 198) (.i 0))]
def r24_35 : List MOper := [o1 200 (.mov (.t 15)),
  o1 201 (.mov (.t 3)),
  o1 202 (.mov (.t 20)),
  o1 203 (.build [.int .i64 0, .int .i64 0] [] [(0, 1, (.t 201)), (1, 1, (.t 202))]),
  o1 204 (.lkp (some 2) (.agg [.int .i64 0, .int .i64 0, .int .i64 0, .int .i64 0]) (.t 200) (.t 203)),
  o1 27 (.alloc [.int .i64 0, .int .i64 0, .int .i64 0, .int .i64 0] []),
  n1 (.st 4 (.t 27) (.t 204))]
def r24_36 : List MOper := [o1 28 (.mov (.c (.bool false)))]
def r24_37 : List MOper := [o1 205 (.mov (.t 24)),
  o1 206 (.len (.t 205)),
  o1 207 (.mov (.i 0))]
def r24_38 : List MOper := [o1 208 (.bin .lss (.t 207) (.t 206))]
def r24_39 : List MOper := [o1 209 (.ixs 1 (.t 205) (.t 207)),
  o1 210 (.ld false 1 (.t 209)),
  o1 30 (.mov (.t 210))]
def r24_40 : List MOper := [o1 211 (.mov (.t 28)),
  o1 212 (.mov (.t 211)),
  o2 213 212 false (.mov (.t 30)),
  o2 214 212 false (.fld 2 (.t 27)),
  o2 215 212 false (.ld false 1 (.t 214)),
  o2 216 212 false (.bin .eql (.t 213) (.t 215)),
  o1 217 (.pick (.t 212) (.c (.bool true)) (.t 216)),
  o1 28 (.mov (.t 217))]
def r24_41 : List MOper := [o1 218 (.bin .add (.t 207) (.i 1)),
  o1 207 (.mov (.t 218))]
def b24_3 : MCode := .seq (.reg false r24_38 [1, 2, 3, 4, 5, 15, 18, 19, 25, 27, 28, 108, 205, 206, 207, 208])
 (.seq (.cond 208 (.skip) (.exit 4))
 (.seq (.block 5 (.seq (.reg false r24_39 [1, 2, 3, 4, 5, 15, 18, 19, 25, 27, 28, 30, 108, 205, 206, 207])
 (.reg false r24_40 [1, 2, 3, 4, 5, 15, 18, 19, 25, 27, 28, 108, 205, 206, 207])))
 (.reg false r24_41 [1, 2, 3, 4, 5, 15, 18, 19, 25, 27, 28, 108, 205, 206, 207])))
def r24_42 : List MOper := [o1 219 (.mov (.t 28)),
  o1 220 (.not (.t 219)),
  o1 221 (.mov (.t 220)),
  o2 222 221 false (.fld 0 (.t 27)),
  o2 223 221 false (.ld false 1 (.t 222)),
  o2 224 221 false (.mov (.t 3)),
  o2 225 221 false (.bin .neq (.t 223) (.t 224)),
  o1 226 (.pick (.t 221) (.c (.bool true)) (.t 225))]
def r24_43 : List MOper := [o1 10 (.mov (.c (.bool false)))]
def r24_44 : List MOper := [o1 227 (.fld 2 (.t 27)),
  o1 228 (.ld false 1 (.t 227)),
  o1 26 (.mov (.t 228))]
def r24_45 : List MOper := [o1 229 (.mov (.t 26)),
  o1 230 (.mov (.t 25)),
  o1 3 (.mov (.t 229)),
  o1 20 (.mov (.t 230))]
def r24_46 : List MOper := [o1 231 (.bin .add (.t 108) (.i 1)),
  o1 108 (.mov (.t 231))]
def b24_2 : MCode := .seq (.reg false r24_21 [1, 2, 3, 4, 5, 15, 18, 19, 20, 108, 109])
 (.seq (.cond 109 (.skip) (.exit 2))
 (.seq (.block 3 (.seq (.reg false r24_22 [1, 2, 3, 4, 5, 15, 18, 19, 20, 21, 108])
 (.seq (.reg false r24_23 [1, 2, 3, 4, 5, 15, 18, 19, 20, 22, 108])
 (.seq (.seq (.reg false r24_24 [1, 2, 3, 4, 5, 15, 18, 19, 20, 22, 23, 108])
 (.seq (.reg false r24_25 [1, 2, 3, 4, 5, 15, 18, 19, 20, 22, 23, 108, 122])
 (.cond 122 (.seq (.reg false r24_26 [10])
 (.ret)) (.skip))))
 (.seq (.reg false r24_27 [1, 2, 3, 4, 5, 15, 18, 19, 20, 22, 108])
 (.seq (.reg false r24_28 [1, 2, 3, 4, 5, 15, 18, 19, 20, 22, 108])
 (.seq (.reg false r24_29 [1, 2, 3, 4, 5, 15, 18, 19, 20, 22, 24, 108])
 (.seq (.seq (.reg false r24_30 [1, 2, 3, 4, 5, 15, 18, 19, 20, 22, 24, 108, 165])
 (.cond 165 (.seq (.reg false r24_31 [10])
 (.ret)) (.skip)))
 (.seq (.reg false r24_32 [1, 2, 3, 4, 5, 15, 18, 19, 20, 22, 24, 25, 108])
 (.seq (.reg false r24_33 [1, 2, 3, 4, 5, 15, 18, 19, 20, 24, 25, 26, 108])
 (.seq (.seq (.reg false r24_34 [1, 2, 3, 4, 5, 15, 18, 19, 20, 24, 25, 26, 108, 199])
 (.cond 199 (.seq (.reg false r24_35 [1, 2, 3, 4, 5, 15, 18, 19, 24, 25, 27, 108])
 (.seq (.reg false r24_36 [1, 2, 3, 4, 5, 15, 18, 19, 24, 25, 27, 28, 108])
 (.seq (.seq (.reg false r24_37 [1, 2, 3, 4, 5, 15, 18, 19, 25, 27, 28, 108, 205, 206, 207])
 (.block 4 (.loop [1, 2, 3, 4, 5, 15, 18, 19, 25, 27, 28, 108, 205, 206, 207] b24_3)))
 (.seq (.seq (.reg false r24_42 [1, 2, 4, 5, 15, 18, 19, 25, 27, 108, 226])
 (.cond 226 (.seq (.reg false r24_43 [10])
 (.ret)) (.skip)))
 (.reg false r24_44 [1, 2, 4, 5, 15, 18, 19, 25, 26, 108]))))) (.skip)))
 (.reg false r24_45 [1, 2, 3, 4, 5, 15, 18, 19, 20, 108]))))))))))))
 (.reg false r24_46 [1, 2, 3, 4, 5, 15, 18, 19, 20, 108])))
def r24_47 : List MOper := [o1 10 (.mov (.c (.bool false)))]
def c24 : MCode := .seq (.reg false r24_1 [1, 2, 3, 4, 5])
 (.seq (.seq (.reg false r24_2 [1, 2, 3, 4, 5, 57])
 (.cond 57 (.seq (.reg false r24_3 [10])
 (.ret)) (.skip)))
 (.seq (.reg false r24_4 [1, 2, 3, 4, 5, 11, 12])
 (.seq (.reg false r24_5 [1, 2, 3, 4, 5, 11, 12, 13])
 (.seq (.seq (.reg false r24_6 [1, 2, 3, 4, 5, 11, 13, 78])
 (.cond 78 (.seq (.reg false r24_7 [10])
 (.ret)) (.skip)))
 (.seq (.reg false r24_8 [1, 2, 3, 4, 5, 11, 13])
 (.seq (.seq (.reg false r24_9 [1, 2, 3, 4, 5, 11, 90])
 (.cond 90 (.seq (.reg false r24_10 [10])
 (.ret)) (.skip)))
 (.seq (.reg false r24_11 [1, 2, 3, 4, 5, 11, 15])
 (.seq (.seq (.reg false r24_12 [1, 2, 3, 4, 5, 15, 93, 94, 95])
 (.block 0 (.loop [1, 2, 3, 4, 5, 15, 93, 94, 95] b24_1)))
 (.seq (.reg false r24_17 [1, 2, 3, 4, 5, 15, 18])
 (.seq (.reg false r24_18 [1, 2, 3, 4, 5, 15, 18, 19])
 (.seq (.reg false r24_19 [1, 2, 3, 4, 5, 15, 18, 19, 20])
 (.seq (.seq (.reg false r24_20 [1, 2, 3, 4, 5, 15, 18, 19, 20, 108])
 (.block 2 (.loop [1, 2, 3, 4, 5, 15, 18, 19, 20, 108] b24_2)))
 (.seq (.reg false r24_47 [10])
 (.ret))))))))))))))
def m24 : MFunc := ⟨3, [.tmp 10], c24⟩
def r25_1 : List MOper := [o1 3 (.box (.t 0)),
  o1 6 (.mov (.c (.bool false)))]
def r25_2 : List MOper := [o1 15 (.ld true 2 (.t 3)),
  o1 16 (.mov (.t 1)),
  o1 17 (.mov (.t 2)),
  o1 18 (.call 49 [(.t 15), (.t 16), (.t 17)]),
  o1 19 (.bin .gtr (.t 18) (.i 0)),
  o1 20 (.mov (.t 19)),
  o2 21 20 false (.fld 0 (.t 3)),
  o2 22 20 false (.ld false 1 (.t 21)),
  o2 23 20 false (.len (.t 22)),
  o2 24 20 false (.bin .gtr (.t 23) (.i 15)),
  o1 25 (.pick (.t 20) (.c (.bool true)) (.t 24))]
def r25_3 : List MOper := [o1 26 (.call 88 []),
  o1 6 (.mov (.t 26))]
def r25_4 : List MOper := [o1 28 (.ld true 2 (.t 3)),
  o1 29 (.mov (.t 1)),
  o1 30 (.mov (.t 2)),
  o1 31 (.call 89 [(.t 28), (.t 29), (.t 30)]),
  o1 27 (.mov (.t 31)),
  o1 32 (.ext (.t 27) 0),
  o1 33 (.ext (.t 27) 1),
  o1 34 (.ext (.t 27) 2),
  o1 7 (.alloc [.fz .isnil 1 [], .fz .isnil 1 []] []),
  n1 (.st 2 (.t 7) (.t 32)),
  o1 8 (.mov (.t 33)),
  o1 9 (.mov (.t 34))]
def r25_5 : List MOper := [o1 35 (.mov (.t 9)),
  o1 36 (.bin .neq (.t 35) (.i 0))]
def r25_6 : List MOper := [o1 37 (.fld 0 (.t 7)),
  o1 38 (.ld false 1 (.t 37)),
  o1 39 (.len (.t 38)),
  o1 40 (.bin .eql (.t 39) (.i 0)),
  o1 41 (.mov (.t 40)),
  o2 42 41 true (.mov (.t 8)),
  o2 43 41 true (.len (.t 42)),
  o2 44 41 true (.bin .eql (.t 43) (.i 0)),
  o1 45 (.pick (.t 41) (.t 44) (.c (.bool false))),
  o1 46 (.mov (.t 45)),
  o2 47 46 true (.call 88 []),
  o1 48 (.pick (.t 46) (.t 47) (.c (.bool false))),
  o1 6 (.mov (.t 48))]
def r25_7 : List MOper := [o1 49 (.mov (.t 1)),
  o1 50 (.mov (.t 2)),
  o1 51 (.call 90 [(.t 49), (.t 50)]),
  o1 10 (.mov (.t 51))]
def r25_8 : List MOper := [o1 53 (.ld true 2 (.t 7)),
  o1 54 (.mov (.t 8)),
  o1 55 (.call 72 [(.t 53), (.t 54)]),
  o1 52 (.mov (.t 55)),
  o1 56 (.ext (.t 52) 0),
  o1 57 (.ext (.t 52) 1),
  o1 11 (.mov (.t 56)),
  o1 12 (.mov (.t 57))]
def r25_9 : List MOper := [o1 58 (.ld true 2 (.t 3)),
  o1 59 (.mov (.t 1)),
  o1 60 (.mov (.t 2)),
  o1 61 (.call 58 [(.t 58), (.t 59), (.t 60)]),
  o1 13 (.mov (.t 61))]
def r25_10 : List MOper := [o1 62 (.mov (.t 10)),
  o1 63 (.bin .lss (.t 62) (.i 1)),
  o1 64 (.mov (.t 63)),
  o2 65 64 false (.mov (.t 13)),
  o2 66 64 false (.len (.t 65)),
  o2 67 64 false (.fld 0 (.t 3)),
  o2 68 64 false (.ld false 1 (.t 67)),
  o2 69 64 false (.len (.t 68)),
  o2 70 64 false (.bin .neq (.t 66) (.t 69)),
  o1 71 (.pick (.t 64) (.c (.bool true)) (.t 70)),
  o1 72 (.mov (.t 71)),
  o2 73 72 false (.mov (.t 11)),
  o2 74 72 false (.len (.t 73)),
  o2 75 72 false (.mov (.t 13)),
  o2 76 72 false (.len (.t 75)),
  o2 77 72 false (.mov (.t 10)),
  o2 78 72 false (.bin .mul (.t 76) (.t 77)),
  o2 79 72 false (.bin .neq (.t 74) (.t 78)),
  o1 80 (.pick (.t 72) (.c (.bool true)) (.t 79))]
def r25_11 : List MOper := [o1 6 (.mov (.c (.bool false)))]
def r25_12 : List MOper := [o1 81 (.mov (.t 11)),
  o1 82 (.len (.t 81)),
  o1 83 (.mov (.i 0))]
def r25_13 : List MOper := [o1 84 (.bin .lss (.t 83) (.t 82))]
def r25_14 : List MOper := [o1 85 (.mov (.t 83)),
  o1 14 (.mov (.t 85))]
def q25_15 : List MOper := [o1 86 (.mov (.t 11)),
  o1 87 (.mov (.t 14)),
  o1 88 (.ixs 1 (.t 86) (.t 87)),
  ox (some 89) none .R false (.ld false 1 (.t 88)),
  o1 90 (.bin .eql (.t 89) (.i 1)),
  o1 91 (.mov (.t 13)),
  o1 92 (.mov (.t 14)),
  o1 93 (.mov (.t 10)),
  o1 94 (.bin .quo (.t 92) (.t 93)),
  o1 95 (.ixs 1 (.t 91) (.t 94)),
  ox (some 96) none .R false (.ld false 1 (.t 95)),
  o1 97 (.beq true (.t 90) (.t 96))]
def r25_15 : List MOper := q25_15
def r25_16 : List MOper := [o1 6 (.mov (.c (.bool false)))]
def r25_17 : List MOper := [o1 98 (.bin .add (.t 83) (.i 1)),
  o1 83 (.mov (.t 98))]
def b25_1 : MCode := .seq (.reg false r25_13 [10, 11, 13, 82, 83, 84])
 (.seq (.cond 84 (.skip) (.exit 0))
 (.seq (.block 1 (.seq (.reg false r25_14 [10, 11, 13, 14, 82, 83])
 (.seq (.reg true r25_15 [10, 11, 13, 82, 83, 97])
 (.cond 97 (.seq (.reg false r25_16 [6])
 (.ret)) (.skip)))))
 (.reg false r25_17 [10, 11, 13, 82, 83])))
def r25_18 : List MOper := [o1 99 (.call 88 []),
  o1 6 (.mov (.t 99))]
def c25 : MCode := .seq (.reg false r25_1 [1, 2, 3])
 (.seq (.seq (.reg false r25_2 [1, 2, 3, 25])
 (.cond 25 (.seq (.reg false r25_3 [6])
 (.ret)) (.skip)))
 (.seq (.reg false r25_4 [1, 2, 3, 7, 8, 9])
 (.seq (.seq (.reg false r25_5 [1, 2, 3, 7, 8, 36])
 (.cond 36 (.seq (.reg false r25_6 [6])
 (.ret)) (.skip)))
 (.seq (.reg false r25_7 [1, 2, 3, 7, 8, 10])
 (.seq (.reg false r25_8 [1, 2, 3, 10, 11])
 (.seq (.reg false r25_9 [3, 10, 11, 13])
 (.seq (.seq (.reg false r25_10 [10, 11, 13, 80])
 (.cond 80 (.seq (.reg false r25_11 [6])
 (.ret)) (.skip)))
 (.seq (.seq (.reg false r25_12 [10, 11, 13, 82, 83])
 (.block 0 (.loop [10, 11, 13, 82, 83] b25_1)))
 (.seq (.reg false r25_18 [6])
 (.ret))))))))))
def m25 : MFunc := ⟨3, [.tmp 6], c25⟩
def r26_1 : List MOper := [o1 2 (.box (.t 0)),
  o1 4 (.mov (.c (.bool false)))]
def r26_2 : List MOper := [o1 7 (.ld true 2 (.t 2)),
  o1 8 (.mov (.t 1)),
  o1 9 (.call 28 [(.t 7), (.t 8)]),
  o1 10 (.bin .gtr (.t 9) (.i 0)),
  o1 11 (.mov (.t 10)),
  o2 12 11 false (.fld 0 (.t 2)),
  o2 13 11 false (.ld false 1 (.t 12)),
  o2 14 11 false (.len (.t 13)),
  o2 15 11 false (.bin .gtr (.t 14) (.i 40)),
  o1 16 (.pick (.t 11) (.c (.bool true)) (.t 15))]
def r26_3 : List MOper := [o1 17 (.call 30 []),
  o1 4 (.mov (.t 17))]
def r26_4 : List MOper := [o1 19 (.ld true 2 (.t 2)),
  o1 20 (.mov (.t 1)),
  o1 21 (.call 72 [(.t 19), (.t 20)]),
  o1 18 (.mov (.t 21)),
  o1 22 (.ext (.t 18) 0),
  o1 23 (.ext (.t 18) 1),
  o1 5 (.mov (.t 22)),
  o1 6 (.mov (.t 23))]
def r26_5 : List MOper := [o1 24 (.mov (.t 5)),
  o1 25 (.ld true 2 (.t 2)),
  o1 26 (.mov (.t 1)),
  o1 27 (.call 91 [(.t 25), (.t 26)]),
  o1 28 (.call 33 [(.t 24), (.t 27)]),
  o1 29 (.mov (.t 28)),
  o2 30 29 true (.mov (.t 5)),
  o2 31 29 true (.len (.t 30)),
  o2 32 29 true (.fld 0 (.t 2)),
  o2 33 29 true (.ld false 1 (.t 32)),
  o2 34 29 true (.len (.t 33)),
  o2 35 29 true (.bin .eql (.t 31) (.t 34)),
  o2 36 29 true (.mov (.t 35)),
  o2 37 36 false (.ld true 2 (.t 2)),
  o2 38 36 false (.mov (.t 1)),
  o2 39 36 false (.call 29 [(.t 37), (.t 38)]),
  o2 40 36 false (.not (.t 39)),
  o2 41 29 true (.pick (.t 36) (.c (.bool true)) (.t 40)),
  o1 42 (.pick (.t 29) (.t 41) (.c (.bool false))),
  o1 43 (.mov (.t 42)),
  o2 44 43 true (.call 30 []),
  o1 45 (.pick (.t 43) (.t 44) (.c (.bool false))),
  o1 4 (.mov (.t 45))]
def c26 : MCode := .seq (.reg false r26_1 [1, 2])
 (.seq (.seq (.reg false r26_2 [1, 2, 16])
 (.cond 16 (.seq (.reg false r26_3 [4])
 (.ret)) (.skip)))
 (.seq (.reg false r26_4 [1, 2, 5])
 (.seq (.reg false r26_5 [4])
 (.ret))))
def m26 : MFunc := ⟨3, [.tmp 4], c26⟩
def r27_1 : List MOper := [o1 5 (.box (.t 0)),
  o1 10 (.mov (.c (.bool false)))]
def r27_2 : List MOper := [o1 17 (.ld true 2 (.t 5)),
  o1 18 (.mov (.t 1)),
  o1 19 (.call 28 [(.t 17), (.t 18)]),
  o1 20 (.bin .gtr (.t 19) (.i 0)),
  o1 21 (.mov (.t 20)),
  o2 22 21 false (.ld true 2 (.t 5)),
  o2 23 21 false (.mov (.t 1)),
  o2 24 21 false (.call 29 [(.t 22), (.t 23)]),
  o2 25 21 false (.not (.t 24)),
  o1 26 (.pick (.t 21) (.c (.bool true)) (.t 25)),
  o1 27 (.mov (.t 26)),
  o2 28 27 false (.mov (.t 2)),
  o2 29 27 false (.len (.t 28)),
  o2 30 27 false (.bin .gtr (.t 29) (.i 300)),
  o1 31 (.pick (.t 27) (.c (.bool true)) (.t 30)),
  o1 32 (.mov (.t 31)),
  o2 33 32 false (.mov (.t 3)),
  o2 34 32 false (.len (.t 33)),
  o2 35 32 false (.bin .gtr (.t 34) (.i 300)),
  o1 36 (.pick (.t 32) (.c (.bool true)) (.t 35)),
  o1 37 (.mov (.t 36)),
  o2 38 37 false (.mov (.t 4)),
  o2 39 37 false (.len (.t 38)),
  o2 40 37 false (.bin .gtr (.t 39) (.i 300)),
  o1 41 (.pick (.t 37) (.c (.bool true)) (.t 40))]
def r27_3 : List MOper := [o1 42 (.call 61 []),
  o1 10 (.mov (.t 42))]
def r27_4 : List MOper := [o1 44 (.ld true 2 (.t 5)),
  o1 45 (.mov (.t 1)),
  o1 46 (.call 72 [(.t 44), (.t 45)]),
  o1 43 (.mov (.t 46)),
  o1 47 (.ext (.t 43) 0),
  o1 48 (.ext (.t 43) 1),
  o1 11 (.mov (.t 47)),
  o1 12 (.mov (.t 48))]
def r27_5 : List MOper := [o1 49 (.mov (.t 11)),
  o1 50 (.len (.t 49)),
  o1 51 (.mov (.t 1)),
  o1 52 (.len (.t 51)),
  o1 53 (.bin .neq (.t 50) (.t 52))]
def r27_6 : List MOper := [o1 10 (.mov (.c (.bool false)))]
def q27_7 : List MOper := [ox (some 54) none .R false (.ld true 2 (.t 5)),
  o1 55 (.mov (.t 1)),
  o1 56 (.mov (.t 2)),
  o1 57 (.mov (.t 4)),
  ox (some 58) none .R false (.call 62 [(.t 54), (.t 55), (.i 0), (.t 56), (.t 57)]),
  ox (some 59) none .R false (.ld true 2 (.t 5)),
  o1 60 (.mov (.t 1)),
  o1 61 (.mov (.t 3)),
  o1 62 (.mov (.t 4)),
  ox (some 63) none .R false (.call 62 [(.t 59), (.t 60), (.i 1), (.t 61), (.t 62)]),
  o1 13 (.mov (.t 58)),
  o1 14 (.mov (.t 63))]
def r27_7 : List MOper := q27_7
def r27_8 : List MOper := [o1 15 (.mov (.c (.bool false)))]
def r27_9 : List MOper := [o1 64 (.mov (.t 11)),
  o1 65 (.len (.t 64)),
  o1 66 (.mov (.i 0))]
def r27_10 : List MOper := [o1 67 (.bin .lss (.t 66) (.t 65))]
def r27_11 : List MOper := [o1 68 (.mov (.t 66)),
  o1 16 (.mov (.t 68))]
def r27_12 : List MOper := [o1 69 (.mov (.t 4)),
  o1 70 (.mov (.t 16)),
  o1 71 (.call 48 [(.t 69), (.t 70)]),
  o1 72 (.not (.t 71))]
def r27_13 : List MOper := [o1 15 (.mov (.c (.bool true)))]
def r27_14 : List MOper := [o1 73 (.mov (.t 13)),
  o1 74 (.mov (.t 73)),
  o2 75 74 true (.mov (.t 11)),
  o2 76 74 true (.mov (.t 16)),
  o2 77 74 true (.ixs 1 (.t 75) (.t 76)),
  o2 78 74 true (.ld false 1 (.t 77)),
  o2 79 74 true (.bin .neq (.t 78) (.i 0)),
  o1 80 (.pick (.t 74) (.t 79) (.c (.bool false))),
  o1 81 (.mov (.t 80)),
  o2 82 81 false (.mov (.t 14)),
  o2 83 81 false (.mov (.t 82)),
  o2 84 83 true (.mov (.t 11)),
  o2 85 83 true (.mov (.t 16)),
  o2 86 83 true (.ixs 1 (.t 84) (.t 85)),
  o2 87 83 true (.ld false 1 (.t 86)),
  o2 88 83 true (.bin .neq (.t 87) (.i 1)),
  o2 89 81 false (.pick (.t 83) (.t 88) (.c (.bool false))),
  o1 90 (.pick (.t 81) (.c (.bool true)) (.t 89))]
def r27_15 : List MOper := [o1 10 (.mov (.c (.bool false)))]
def r27_16 : List MOper := [o1 91 (.bin .add (.t 66) (.i 1)),
  o1 66 (.mov (.t 91))]
def b27_1 : MCode := .seq (.reg false r27_10 [4, 11, 13, 14, 15, 65, 66, 67])
 (.seq (.cond 67 (.skip) (.exit 0))
 (.seq (.block 1 (.seq (.reg false r27_11 [4, 11, 13, 14, 15, 16, 65, 66])
 (.seq (.seq (.reg false r27_12 [4, 11, 13, 14, 15, 16, 65, 66, 72])
 (.cond 72 (.exit 1) (.skip)))
 (.seq (.reg false r27_13 [4, 11, 13, 14, 15, 16, 65, 66])
 (.seq (.reg false r27_14 [4, 11, 13, 14, 15, 65, 66, 90])
 (.cond 90 (.seq (.reg false r27_15 [10])
 (.ret)) (.skip)))))))
 (.reg false r27_16 [4, 11, 13, 14, 15, 65, 66])))
def r27_17 : List MOper := [o1 92 (.mov (.t 15)),
  o1 93 (.mov (.t 92)),
  o2 94 93 false (.mov (.t 13)),
  o2 95 93 false (.mov (.t 94)),
  o2 96 95 true (.mov (.t 14)),
  o2 97 93 false (.pick (.t 95) (.t 96) (.c (.bool false))),
  o1 98 (.pick (.t 93) (.c (.bool true)) (.t 97)),
  o1 99 (.mov (.t 98)),
  o2 100 99 true (.mov (.t 15)),
  o2 101 99 true (.mov (.t 100)),
  o2 102 101 true (.mov (.t 13)),
  o2 103 99 true (.pick (.t 101) (.t 102) (.c (.bool false))),
  o2 104 99 true (.mov (.t 103)),
  o2 105 104 true (.mov (.t 14)),
  o2 106 99 true (.pick (.t 104) (.t 105) (.c (.bool false))),
  o2 107 99 true (.not (.t 106)),
  o1 108 (.pick (.t 99) (.t 107) (.c (.bool false))),
  o1 109 (.mov (.t 108)),
  o2 110 109 true (.call 61 []),
  o1 111 (.pick (.t 109) (.t 110) (.c (.bool false))),
  o1 10 (.mov (.t 111))]
def c27 : MCode := .seq (.reg false r27_1 [1, 2, 3, 4, 5])
 (.seq (.seq (.reg false r27_2 [1, 2, 3, 4, 5, 41])
 (.cond 41 (.seq (.reg false r27_3 [10])
 (.ret)) (.skip)))
 (.seq (.reg false r27_4 [1, 2, 3, 4, 5, 11])
 (.seq (.seq (.reg false r27_5 [1, 2, 3, 4, 5, 11, 53])
 (.cond 53 (.seq (.reg false r27_6 [10])
 (.ret)) (.skip)))
 (.seq (.reg true r27_7 [4, 11, 13, 14])
 (.seq (.reg false r27_8 [4, 11, 13, 14, 15])
 (.seq (.seq (.reg false r27_9 [4, 11, 13, 14, 15, 65, 66])
 (.block 0 (.loop [4, 11, 13, 14, 15, 65, 66] b27_1)))
 (.seq (.reg false r27_17 [10])
 (.ret))))))))
def m27 : MFunc := ⟨3, [.tmp 10], c27⟩
def r28_1 : List MOper := [o1 2 (.box (.t 0)),
  o1 4 (.mov (.i 0))]
def r28_2 : List MOper := [o1 6 (.ld true 2 (.t 2)),
  o1 7 (.call 92 [(.t 6)]),
  o1 5 (.mov (.t 7))]
def r28_3 : List MOper := [o1 8 (.mov (.t 5)),
  o1 9 (.bin .gtr (.t 8) (.i 0))]
def r28_4 : List MOper := [o1 10 (.mov (.t 5)),
  o1 4 (.mov (.t 10))]
def r28_5 : List MOper := [o1 11 (.mov (.t 1)),
  o1 12 (.len (.t 11)),
  o1 13 (.bin .gtr (.t 12) (.i 300)),
  o1 14 (.mov (.t 13)),
  o2 15 14 false (.fld 0 (.t 2)),
  o2 16 14 false (.ld false 1 (.t 15)),
  o2 17 14 false (.len (.t 16)),
  o2 18 14 false (.bin .gtr (.t 17) (.i 60)),
  o1 19 (.pick (.t 14) (.c (.bool true)) (.t 18))]
def r28_6 : List MOper := [o1 4 (.mov (.i 1))]
def r28_7 : List MOper := [o1 4 (.mov (.i 0))]
def c28 : MCode := .seq (.reg false r28_1 [1, 2])
 (.seq (.seq (.reg false r28_2 [1, 2, 5])
 (.seq (.reg false r28_3 [1, 2, 5, 9])
 (.cond 9 (.seq (.reg false r28_4 [4])
 (.ret)) (.skip))))
 (.seq (.seq (.reg false r28_5 [19])
 (.cond 19 (.seq (.reg false r28_6 [4])
 (.ret)) (.skip)))
 (.seq (.reg false r28_7 [4])
 (.ret))))
def m28 : MFunc := ⟨3, [.tmp 4], c28⟩
def r29_1 : List MOper := [o1 2 (.box (.t 0)),
  o1 4 (.mov (.c (.bool false)))]
def r29_2 : List MOper := [o1 7 (.ld true 2 (.t 2)),
  o1 8 (.call 35 [(.t 7)]),
  o1 9 (.bin .neq (.t 8) (.i 0)),
  o1 10 (.mov (.t 9)),
  o2 11 10 false (.mov (.t 1)),
  o2 12 10 false (.len (.t 11)),
  o2 13 10 false (.fld 0 (.t 2)),
  o2 14 10 false (.ld false 1 (.t 13)),
  o2 15 10 false (.len (.t 14)),
  o2 16 10 false (.bin .neq (.t 12) (.t 15)),
  o1 17 (.pick (.t 10) (.c (.bool true)) (.t 16))]
def r29_3 : List MOper := [o1 4 (.mov (.c (.bool false)))]
def r29_4 : List MOper := [o1 18 (.mov (.t 1)),
  o1 19 (.len (.t 18)),
  o1 20 (.mov (.i 0))]
def r29_5 : List MOper := [o1 21 (.bin .lss (.t 20) (.t 19))]
def r29_6 : List MOper := [o1 22 (.ixs 1 (.t 18) (.t 20)),
  o1 23 (.ld false 1 (.t 22)),
  o1 6 (.mov (.t 23))]
def r29_7 : List MOper := [o1 24 (.mov (.t 6)),
  o1 25 (.bin .lss (.t 24) (.i 0)),
  o1 26 (.mov (.t 25)),
  o2 27 26 false (.mov (.t 6)),
  o2 28 26 false (.bin .geq (.t 27) (.i 6)),
  o1 29 (.pick (.t 26) (.c (.bool true)) (.t 28))]
def r29_8 : List MOper := [o1 4 (.mov (.c (.bool false)))]
def r29_9 : List MOper := [o1 30 (.bin .add (.t 20) (.i 1)),
  o1 20 (.mov (.t 30))]
def b29_1 : MCode := .seq (.reg false r29_5 [18, 19, 20, 21])
 (.seq (.cond 21 (.skip) (.exit 0))
 (.seq (.block 1 (.seq (.reg false r29_6 [6, 18, 19, 20])
 (.seq (.reg false r29_7 [18, 19, 20, 29])
 (.cond 29 (.seq (.reg false r29_8 [4])
 (.ret)) (.skip)))))
 (.reg false r29_9 [18, 19, 20])))
def r29_10 : List MOper := [o1 4 (.mov (.c (.bool true)))]
def c29 : MCode := .seq (.reg false r29_1 [1, 2])
 (.seq (.seq (.reg false r29_2 [1, 17])
 (.cond 17 (.seq (.reg false r29_3 [4])
 (.ret)) (.skip)))
 (.seq (.seq (.reg false r29_4 [18, 19, 20])
 (.block 0 (.loop [18, 19, 20] b29_1)))
 (.seq (.reg false r29_10 [4])
 (.ret))))
def m29 : MFunc := ⟨3, [.tmp 4], c29⟩
def r30_1 : List MOper := [o1 0 (.mov (.c (.bool false)))]
def r30_2 : List MOper := [o1 7 (.bsl false 1 [(.i 1), (.i 1)]),
  o1 8 (.bsl false 1 [(.i 0), (.i 1)]),
  o1 9 (.bsl false 1 [(.i 1)]),
  o1 10 (.bsl false 1 [(.t 8), (.t 9)]),
  o1 11 (.build [.fz .isnil 1 [], .fz .isnil 1 []] [] [(0, 1, (.t 7)), (1, 1, (.t 10))]),
  o1 1 (.alloc [.fz .isnil 1 [], .fz .isnil 1 []] []),
  n1 (.st 2 (.t 1) (.t 11))]
def r30_3 : List MOper := [o1 13 (.ld true 2 (.t 1)),
  o1 14 (.bsl false 1 [(.i 1), (.i 2)]),
  o1 15 (.call 31 [(.t 13), (.t 14)]),
  o1 12 (.mov (.t 15)),
  o1 16 (.ext (.t 12) 0),
  o1 17 (.ext (.t 12) 1),
  o1 2 (.mov (.t 16)),
  o1 3 (.mov (.t 17))]
def r30_4 : List MOper := [o1 18 (.ld true 2 (.t 1)),
  o1 19 (.bsl false 1 [(.i 1), (.i 2)]),
  o1 20 (.call 91 [(.t 18), (.t 19)]),
  o1 4 (.mov (.t 20))]
def r30_5 : List MOper := [o1 22 (.ld true 2 (.t 1)),
  o1 23 (.bsl false 1 [(.i 1), (.i 1)]),
  o1 24 (.call 31 [(.t 22), (.t 23)]),
  o1 21 (.mov (.t 24)),
  o1 25 (.ext (.t 21) 0),
  o1 26 (.ext (.t 21) 1),
  o1 5 (.mov (.t 25)),
  o1 6 (.mov (.t 26))]
def r30_6 : List MOper := [o1 27 (.mov (.t 2)),
  o1 28 (.len (.t 27)),
  o1 29 (.bin .eql (.t 28) (.i 2)),
  o1 30 (.mov (.t 29)),
  o2 31 30 true (.mov (.t 3)),
  o2 32 30 true (.len (.t 31)),
  o2 33 30 true (.bin .eql (.t 32) (.i 2)),
  o1 34 (.pick (.t 30) (.t 33) (.c (.bool false))),
  o1 35 (.mov (.t 34)),
  o2 36 35 true (.mov (.t 3)),
  o2 37 35 true (.ixs 1 (.t 36) (.i 0)),
  o2 38 35 true (.ld false 1 (.t 37)),
  o2 39 35 true (.not (.t 38)),
  o1 40 (.pick (.t 35) (.t 39) (.c (.bool false))),
  o1 41 (.mov (.t 40)),
  o2 42 41 true (.mov (.t 2)),
  o2 43 41 true (.ixs 1 (.t 42) (.i 0)),
  o2 44 41 true (.ld false 1 (.t 43)),
  o2 45 41 true (.len (.t 44)),
  o2 46 41 true (.bin .eql (.t 45) (.i 3)),
  o1 47 (.pick (.t 41) (.t 46) (.c (.bool false))),
  o1 48 (.mov (.t 47)),
  o2 49 48 true (.mov (.t 2)),
  o2 50 48 true (.ixs 1 (.t 49) (.i 0)),
  o2 51 48 true (.ld false 1 (.t 50)),
  o2 52 48 true (.ixs 1 (.t 51) (.i 0)),
  o2 53 48 true (.ld false 1 (.t 52)),
  o2 54 48 true (.bin .eql (.t 53) (.i 1)),
  o1 55 (.pick (.t 48) (.t 54) (.c (.bool false))),
  o1 56 (.mov (.t 55)),
  o2 57 56 true (.mov (.t 4)),
  o2 58 56 true (.len (.t 57)),
  o2 59 56 true (.bin .eql (.t 58) (.i 2)),
  o1 60 (.pick (.t 56) (.t 59) (.c (.bool false))),
  o1 61 (.mov (.t 60)),
  o2 62 61 true (.mov (.t 4)),
  o2 63 61 true (.ixs 1 (.t 62) (.i 0)),
  o2 64 61 true (.ld false 1 (.t 63)),
  o2 65 61 true (.bin .eql (.t 64) (.i 1)),
  o1 66 (.pick (.t 61) (.t 65) (.c (.bool false))),
  o1 67 (.mov (.t 66)),
  o2 68 67 true (.mov (.t 6)),
  o2 69 67 true (.len (.t 68)),
  o2 70 67 true (.bin .eql (.t 69) (.i 2)),
  o1 71 (.pick (.t 67) (.t 70) (.c (.bool false))),
  o1 72 (.mov (.t 71)),
  o2 73 72 true (.mov (.t 6)),
  o2 74 72 true (.ixs 1 (.t 73) (.i 0)),
  o2 75 72 true (.ld false 1 (.t 74)),
  o1 76 (.pick (.t 72) (.t 75) (.c (.bool false))),
  o1 0 (.mov (.t 76))]
def c30 : MCode := .seq (.reg false r30_1 [])
 (.seq (.reg false r30_2 [1])
 (.seq (.reg false r30_3 [1, 2, 3])
 (.seq (.reg false r30_4 [1, 2, 3, 4])
 (.seq (.reg false r30_5 [2, 3, 4, 6])
 (.seq (.reg false r30_6 [0])
 (.ret))))))
def m30 : MFunc := ⟨3, [.tmp 0], c30⟩
def r31_1 : List MOper := [o1 2 (.box (.t 0)),
  o1 4 (.mov (.c (.fz .isnil 1 []))),
  o1 5 (.mov (.c (.fz .isnil 1 [])))]
def r31_2 : List MOper := [o1 13 (.ld true 2 (.t 2)),
  o1 14 (.mov (.t 1)),
  o1 15 (.call 93 [(.t 13), (.t 14)]),
  o1 12 (.mov (.t 15)),
  o1 16 (.ext (.t 12) 0),
  o1 17 (.ext (.t 12) 1),
  o1 6 (.mov (.t 16)),
  o1 7 (.mov (.t 17))]
def r31_3 : List MOper := [o1 18 (.mov (.t 7)),
  o1 19 (.not (.t 18))]
def r31_4 : List MOper := [o1 4 (.mov (.c (.fz .isnil 1 []))),
  o1 5 (.mov (.c (.fz .isnil 1 [])))]
def q31_5 : List MOper := [o1 20 (.mov (.t 6)),
  o1 21 (.len (.t 20)),
  ox (some 22) none .A false (.mksl 1 (.fz .isnil 1 []) (.t 21)),
  o1 23 (.mov (.t 6)),
  o1 24 (.len (.t 23)),
  ox (some 25) none .A false (.mksl 1 (.bool false) (.t 24)),
  o1 8 (.mov (.t 22)),
  o1 9 (.mov (.t 25))]
def r31_5 : List MOper := q31_5
def r31_6 : List MOper := [o1 26 (.mov (.t 6)),
  o1 27 (.len (.t 26)),
  o1 28 (.mov (.i 0))]
def r31_7 : List MOper := [o1 29 (.bin .lss (.t 28) (.t 27))]
def r31_8 : List MOper := [o1 30 (.mov (.t 28)),
  o1 31 (.ixs 4 (.t 26) (.t 28)),
  o1 32 (.ld true 4 (.t 31)),
  o1 11 (.alloc [.int .i64 0, .int .i64 0, .int .i64 0, .bool false] []),
  o1 10 (.mov (.t 30)),
  n1 (.st 4 (.t 11) (.t 32))]
def q31_9 : List MOper := [o1 33 (.mov (.t 8)),
  o1 34 (.mov (.t 10)),
  o1 35 (.mov (.t 9)),
  o1 36 (.mov (.t 10)),
  ox (some 37) none .A false (.mksl 1 (.int .i64 0) (.i 3)),
  o1 38 (.fld 3 (.t 11)),
  ox (some 39) none .R false (.ld false 1 (.t 38)),
  o1 40 (.ixs 1 (.t 33) (.t 34)),
  ox none none .L false (.st 1 (.t 40) (.t 37)),
  o1 41 (.ixs 1 (.t 35) (.t 36)),
  ox none none .L false (.st 1 (.t 41) (.t 39))]
def r31_9 : List MOper := q31_9
def r31_10 : List MOper := [o1 42 (.fld 3 (.t 11)),
  o1 43 (.ld false 1 (.t 42)),
  o1 44 (.not (.t 43))]
def q31_11 : List MOper := [o1 45 (.mov (.t 8)),
  o1 46 (.mov (.t 10)),
  o1 47 (.ixs 1 (.t 45) (.t 46)),
  ox (some 48) none .R false (.ld false 1 (.t 47)),
  o1 49 (.fld 0 (.t 11)),
  o1 50 (.slcA 3 (.t 49)),
  ox (some 51) none .L false (.cpy 1 (.t 48) (.t 50))]
def r31_11 : List MOper := q31_11
def r31_12 : List MOper := [o1 52 (.bin .add (.t 28) (.i 1)),
  o1 28 (.mov (.t 52))]
def b31_1 : MCode := .seq (.reg false r31_7 [8, 9, 26, 27, 28, 29])
 (.seq (.cond 29 (.skip) (.exit 0))
 (.seq (.block 1 (.seq (.reg false r31_8 [8, 9, 10, 11, 26, 27, 28])
 (.seq (.reg true r31_9 [8, 9, 10, 11, 26, 27, 28])
 (.seq (.reg false r31_10 [8, 9, 10, 11, 26, 27, 28, 44])
 (.cond 44 (.reg true r31_11 [8, 9, 26, 27, 28]) (.skip))))))
 (.reg false r31_12 [8, 9, 26, 27, 28])))
def r31_13 : List MOper := [o1 53 (.mov (.t 8)),
  o1 54 (.mov (.t 9)),
  o1 4 (.mov (.t 53)),
  o1 5 (.mov (.t 54))]
def c31 : MCode := .seq (.reg false r31_1 [1, 2])
 (.seq (.reg false r31_2 [6, 7])
 (.seq (.seq (.reg false r31_3 [6, 19])
 (.cond 19 (.seq (.reg false r31_4 [4, 5])
 (.ret)) (.skip)))
 (.seq (.reg true r31_5 [6, 8, 9])
 (.seq (.seq (.reg false r31_6 [8, 9, 26, 27, 28])
 (.block 0 (.loop [8, 9, 26, 27, 28] b31_1)))
 (.seq (.reg false r31_13 [4, 5])
 (.ret))))))
def m31 : MFunc := ⟨3, [.tmp 4, .tmp 5], c31⟩
def r32_1 : List MOper := [o1 4 (.mov (.c (.bool false)))]
def r32_2 : List MOper := [o1 6 (.mov (.t 0)),
  o1 7 (.len (.t 6)),
  o1 8 (.mov (.t 1)),
  o1 9 (.len (.t 8)),
  o1 10 (.bin .neq (.t 7) (.t 9))]
def r32_3 : List MOper := [o1 4 (.mov (.c (.bool false)))]
def r32_4 : List MOper := [o1 11 (.mov (.t 0)),
  o1 12 (.len (.t 11)),
  o1 13 (.mov (.i 0))]
def r32_5 : List MOper := [o1 14 (.bin .lss (.t 13) (.t 12))]
def r32_6 : List MOper := [o1 15 (.mov (.t 13)),
  o1 5 (.mov (.t 15))]
def q32_7 : List MOper := [o1 16 (.mov (.t 0)),
  o1 17 (.mov (.t 5)),
  o1 18 (.ixs 1 (.t 16) (.t 17)),
  ox (some 19) none .R false (.ld false 1 (.t 18)),
  o1 20 (.mov (.t 1)),
  o1 21 (.mov (.t 5)),
  o1 22 (.ixs 1 (.t 20) (.t 21)),
  ox (some 23) none .R false (.ld false 1 (.t 22)),
  o1 24 (.beq true (.t 19) (.t 23))]
def r32_7 : List MOper := q32_7
def r32_8 : List MOper := [o1 4 (.mov (.c (.bool false)))]
def r32_9 : List MOper := [o1 25 (.bin .add (.t 13) (.i 1)),
  o1 13 (.mov (.t 25))]
def b32_1 : MCode := .seq (.reg false r32_5 [0, 1, 12, 13, 14])
 (.seq (.cond 14 (.skip) (.exit 0))
 (.seq (.block 1 (.seq (.reg false r32_6 [0, 1, 5, 12, 13])
 (.seq (.reg true r32_7 [0, 1, 12, 13, 24])
 (.cond 24 (.seq (.reg false r32_8 [4])
 (.ret)) (.skip)))))
 (.reg false r32_9 [0, 1, 12, 13])))
def r32_10 : List MOper := [o1 4 (.mov (.c (.bool true)))]
def c32 : MCode := .seq (.reg false r32_1 [0, 1])
 (.seq (.seq (.reg false r32_2 [0, 1, 10])
 (.cond 10 (.seq (.reg false r32_3 [4])
 (.ret)) (.skip)))
 (.seq (.seq (.reg false r32_4 [0, 1, 12, 13])
 (.block 0 (.loop [0, 1, 12, 13] b32_1)))
 (.seq (.reg false r32_10 [4])
 (.ret))))
def m32 : MFunc := ⟨3, [.tmp 4], c32⟩
def r33_1 : List MOper := [o1 4 (.mov (.c (.bool false)))]
def r33_2 : List MOper := [o1 6 (.mov (.t 0)),
  o1 7 (.len (.t 6)),
  o1 8 (.mov (.t 1)),
  o1 9 (.len (.t 8)),
  o1 10 (.bin .neq (.t 7) (.t 9))]
def r33_3 : List MOper := [o1 4 (.mov (.c (.bool false)))]
def r33_4 : List MOper := [o1 11 (.mov (.t 0)),
  o1 12 (.len (.t 11)),
  o1 13 (.mov (.i 0))]
def r33_5 : List MOper := [o1 14 (.bin .lss (.t 13) (.t 12))]
def r33_6 : List MOper := [o1 15 (.mov (.t 13)),
  o1 5 (.mov (.t 15))]
def q33_7 : List MOper := [o1 16 (.mov (.t 0)),
  o1 17 (.mov (.t 5)),
  o1 18 (.ixs 1 (.t 16) (.t 17)),
  ox (some 19) none .R false (.ld false 1 (.t 18)),
  o1 20 (.mov (.t 1)),
  o1 21 (.mov (.t 5)),
  o1 22 (.ixs 1 (.t 20) (.t 21)),
  ox (some 23) none .R false (.ld false 1 (.t 22)),
  o1 24 (.bin .neq (.t 19) (.t 23))]
def r33_7 : List MOper := q33_7
def r33_8 : List MOper := [o1 4 (.mov (.c (.bool false)))]
def r33_9 : List MOper := [o1 25 (.bin .add (.t 13) (.i 1)),
  o1 13 (.mov (.t 25))]
def b33_1 : MCode := .seq (.reg false r33_5 [0, 1, 12, 13, 14])
 (.seq (.cond 14 (.skip) (.exit 0))
 (.seq (.block 1 (.seq (.reg false r33_6 [0, 1, 5, 12, 13])
 (.seq (.reg true r33_7 [0, 1, 12, 13, 24])
 (.cond 24 (.seq (.reg false r33_8 [4])
 (.ret)) (.skip)))))
 (.reg false r33_9 [0, 1, 12, 13])))
def r33_10 : List MOper := [o1 4 (.mov (.c (.bool true)))]
def c33 : MCode := .seq (.reg false r33_1 [0, 1])
 (.seq (.seq (.reg false r33_2 [0, 1, 10])
 (.cond 10 (.seq (.reg false r33_3 [4])
 (.ret)) (.skip)))
 (.seq (.seq (.reg false r33_4 [0, 1, 12, 13])
 (.block 0 (.loop [0, 1, 12, 13] b33_1)))
 (.seq (.reg false r33_10 [4])
 (.ret))))
def m33 : MFunc := ⟨3, [.tmp 4], c33⟩
def r34_1 : List MOper := [o1 2 (.box (.t 0)),
  o1 4 (.mov (.c (.bool false)))]
def r34_2 : List MOper := [o1 5 (.ld true 2 (.t 2)),
  o1 6 (.call 92 [(.t 5)]),
  o1 7 (.bin .eql (.t 6) (.i 0)),
  o1 8 (.mov (.t 7)),
  o2 9 8 true (.mov (.t 1)),
  o2 10 8 true (.len (.t 9)),
  o2 11 8 true (.bin .leq (.t 10) (.i 300)),
  o1 12 (.pick (.t 8) (.t 11) (.c (.bool false))),
  o1 4 (.mov (.t 12))]
def c34 : MCode := .seq (.reg false r34_1 [1, 2])
 (.seq (.reg false r34_2 [4])
 (.ret))
def m34 : MFunc := ⟨3, [.tmp 4], c34⟩
end Go.Proofs.Ytlilfiekkaolkaa.Am
