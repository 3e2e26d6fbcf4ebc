/- The functions as code of the abstract machine (printed by gen.py), part 5. -/
import Derived.Test.YtlilfiekkaolkaaAmX
set_option linter.unusedVariables false
namespace Go.Proofs.Ytlilfiekkaolkaa.Am
open Go
def r145_1 : List MOper := [o1 3 (.box (.t 0)),
  o1 6 (.mov (.c (.fz .isnil 1 [])))]
def r145_2 : List MOper := [o1 20 (.ld true 2 (.t 3)),
  o1 21 (.mov (.t 1)),
  o1 22 (.bin .sub (.i 1) (.t 21)),
  o1 23 (.call 175 [(.t 20), (.t 22)]),
  o1 7 (.mov (.t 23))]
def r145_3 : List MOper := [o1 24 (.ld true 2 (.t 3)),
  o1 25 (.call 69 [(.t 24)]),
  o1 26 (.bin .neq (.t 25) (.i 0)),
  o1 27 (.mov (.t 26)),
  o2 28 27 false (.mov (.t 1)),
  o2 29 27 false (.bin .neq (.t 28) (.i 0)),
  o2 30 27 false (.mov (.t 29)),
  o2 31 30 true (.mov (.t 1)),
  o2 32 30 true (.bin .neq (.t 31) (.i 1)),
  o2 33 27 false (.pick (.t 30) (.t 32) (.c (.bool false))),
  o1 34 (.pick (.t 27) (.c (.bool true)) (.t 33))]
def r145_4 : List MOper := [o1 6 (.mov (.c (.fz .isnil 1 [])))]
def q145_5 : List MOper := [ox (some 35) none .R false (.ld true 2 (.t 3)),
  o1 36 (.mov (.t 1)),
  o1 37 (.fld 0 (.t 3)),
  ox (some 38) none .R false (.ld false 1 (.t 37)),
  o1 39 (.len (.t 38)),
  ox (some 40) none .A false (.mksl 1 (.int .i64 0) (.t 39)),
  o1 41 (.fld 0 (.t 3)),
  ox (some 42) none .R false (.ld false 1 (.t 41)),
  o1 43 (.len (.t 42)),
  ox (some 44) none .A false (.mksl 1 (.int .i64 0) (.t 43)),
  ox (some 45) none .L false (.build [.fz .isnil 1 [], .fz .isnil 1 [], .int .i64 0, .fz .isnil 1 [], .fz .isnil 1 [], .fz .isnil 2 []] [(5, 2)] [(0, 2, (.t 35)), (2, 1, (.t 36)), (3, 1, (.t 40)), (4, 1, (.t 44))]),
  ox (some 46) none .L false (.box (.t 45)),
  o1 8 (.mov (.t 46))]
def r145_5 : List MOper := q145_5
def r145_6 : List MOper := [o1 47 (.mov (.t 8)),
  o1 48 (.mkfn 176 [(.t 47)] []),
  o1 9 (.mov (.t 48))]
def r145_7 : List MOper := [o1 49 (.fld 1 (.t 3)),
  o1 50 (.ld false 1 (.t 49)),
  o1 51 (.len (.t 50)),
  o1 52 (.mov (.i 0))]
def r145_8 : List MOper := [o1 53 (.bin .lss (.t 52) (.t 51))]
def r145_9 : List MOper := [o1 54 (.mov (.t 52)),
  o1 55 (.ixs 1 (.t 50) (.t 52)),
  o1 56 (.ld false 1 (.t 55)),
  o1 10 (.mov (.t 54)),
  o1 11 (.mov (.t 56))]
def q145_10 : List MOper := [o1 57 (.mov (.t 8)),
  o1 58 (.nilck (.t 57)),
  o1 59 (.fld 3 (.t 58)),
  ox (some 60) none .R false (.ld false 1 (.t 59)),
  o1 61 (.mov (.t 10)),
  o1 62 (.mov (.t 8)),
  o1 63 (.nilck (.t 62)),
  o1 64 (.fld 4 (.t 63)),
  ox (some 65) none .R false (.ld false 1 (.t 64)),
  o1 66 (.mov (.t 10)),
  o1 67 (.mov (.t 11)),
  o1 68 (.len (.t 67)),
  o1 69 (.ixs 1 (.t 60) (.t 61)),
  ox none none .L false (.st 1 (.t 69) (.t 68)),
  o1 70 (.ixs 1 (.t 65) (.t 66)),
  ox none none .L false (.st 1 (.t 70) (.i (-1)))]
def r145_10 : List MOper := q145_10
def r145_11 : List MOper := [o1 71 (.bin .add (.t 52) (.i 1)),
  o1 52 (.mov (.t 71))]
def b145_1 : MCode := .seq (.reg false r145_8 [2, 3, 7, 8, 9, 50, 51, 52, 53])
 (.seq (.cond 53 (.skip) (.exit 0))
 (.seq (.block 1 (.seq (.reg false r145_9 [2, 3, 7, 8, 9, 10, 11, 50, 51, 52])
 (.reg true r145_10 [2, 3, 7, 8, 9, 50, 51, 52])))
 (.reg false r145_11 [2, 3, 7, 8, 9, 50, 51, 52])))
def r145_12 : List MOper := [o1 72 (.mov (.t 8)),
  o1 73 (.nilck (.t 72)),
  o1 74 (.fld 4 (.t 73)),
  o1 75 (.ld false 1 (.t 74)),
  o1 76 (.len (.t 75)),
  o1 77 (.mov (.i 0))]
def r145_13 : List MOper := [o1 78 (.bin .lss (.t 77) (.t 76))]
def r145_14 : List MOper := [o1 79 (.mov (.t 77)),
  o1 12 (.mov (.t 79))]
def r145_15 : List MOper := [o1 80 (.mov (.t 12)),
  o1 81 (.mov (.t 2)),
  o1 82 (.len (.t 81)),
  o1 83 (.bin .lss (.t 80) (.t 82)),
  o1 84 (.mov (.t 83)),
  o2 85 84 true (.mov (.t 2)),
  o2 86 84 true (.mov (.t 12)),
  o2 87 84 true (.ixs 1 (.t 85) (.t 86)),
  o2 88 84 true (.ld false 1 (.t 87)),
  o1 89 (.pick (.t 84) (.t 88) (.c (.bool false)))]
def r145_16 : List MOper := [o1 90 (.mov (.t 9)),
  o1 91 (.mov (.t 12)),
  o1 92 (.callv (.t 90) [(.t 91), (.i 0)])]
def r145_17 : List MOper := [o1 93 (.bin .add (.t 77) (.i 1)),
  o1 77 (.mov (.t 93))]
def b145_2 : MCode := .seq (.reg false r145_13 [2, 3, 7, 8, 9, 76, 77, 78])
 (.seq (.cond 78 (.skip) (.exit 2))
 (.seq (.block 3 (.seq (.reg false r145_14 [2, 3, 7, 8, 9, 12, 76, 77])
 (.seq (.reg false r145_15 [2, 3, 7, 8, 9, 12, 76, 77, 89])
 (.cond 89 (.reg false r145_16 [2, 3, 7, 8, 9, 76, 77]) (.skip)))))
 (.reg false r145_17 [2, 3, 7, 8, 9, 76, 77])))
def r145_18 : List MOper := [o1 94 (.mov (.t 7)),
  o1 95 (.len (.t 94)),
  o1 96 (.mov (.i 0))]
def r145_19 : List MOper := [o1 97 (.bin .lss (.t 96) (.t 95))]
def r145_20 : List MOper := [o1 98 (.mov (.t 96)),
  o1 99 (.ixs 1 (.t 94) (.t 96)),
  o1 100 (.ld false 1 (.t 99)),
  o1 13 (.mov (.t 98)),
  o1 14 (.mov (.t 100))]
def r145_21 : List MOper := [o1 101 (.mov (.t 14))]
def r145_22 : List MOper := [o1 102 (.mov (.t 9)),
  o1 103 (.mov (.t 13)),
  o1 104 (.callv (.t 102) [(.t 103), (.i 1)])]
def r145_23 : List MOper := [o1 105 (.bin .add (.t 96) (.i 1)),
  o1 96 (.mov (.t 105))]
def b145_3 : MCode := .seq (.reg false r145_19 [3, 8, 9, 94, 95, 96, 97])
 (.seq (.cond 97 (.skip) (.exit 4))
 (.seq (.block 5 (.seq (.reg false r145_20 [3, 8, 9, 13, 14, 94, 95, 96])
 (.seq (.reg false r145_21 [3, 8, 9, 13, 94, 95, 96, 101])
 (.cond 101 (.reg false r145_22 [3, 8, 9, 94, 95, 96]) (.skip)))))
 (.reg false r145_23 [3, 8, 9, 94, 95, 96])))
def r145_24 : List MOper := [o1 106 (.ld true 2 (.t 3)),
  o1 107 (.call 170 [(.t 106)]),
  o1 15 (.mov (.t 107))]
def r145_25 : List MOper := [o1 108 (.mov (.t 8)),
  o1 109 (.nilck (.t 108)),
  o1 110 (.fld 5 (.t 109)),
  o1 111 (.ld false 1 (.t 110)),
  o1 112 (.len (.t 111)),
  o1 113 (.bin .gtr (.t 112) (.i 0))]
def r145_26 : List MOper := [o1 115 (.mov (.t 8)),
  o1 116 (.nilck (.t 115)),
  o1 117 (.fld 5 (.t 116)),
  o1 118 (.mkif 166 (.t 117)),
  o1 119 (.call 172 [(.t 118)]),
  o1 120 (.tas 164 (.t 119)),
  o1 114 (.mov (.t 120)),
  o1 121 (.ext (.t 114) 0),
  o1 122 (.ext (.t 114) 1),
  o1 16 (.alloc [.int .i64 0, .int .i64 0] []),
  n1 (.st 2 (.t 16) (.t 121)),
  o1 17 (.mov (.t 122))]
def r145_27 : List MOper := [o1 123 (.mov (.t 15)),
  o1 124 (.fld 0 (.t 16)),
  o1 125 (.ld false 1 (.t 124)),
  o1 126 (.ixs 1 (.t 123) (.t 125)),
  o1 127 (.ld false 1 (.t 126)),
  o1 128 (.len (.t 127)),
  o1 129 (.mov (.i 0))]
def r145_28 : List MOper := [o1 130 (.bin .lss (.t 129) (.t 128))]
def r145_29 : List MOper := [o1 131 (.ixs 1 (.t 127) (.t 129)),
  o1 132 (.ld false 1 (.t 131)),
  o1 19 (.mov (.t 132))]
def r145_30 : List MOper := [o1 133 (.mov (.t 8)),
  o1 134 (.mov (.t 19)),
  o1 135 (.call 177 [(.t 133), (.t 134)])]
def r145_31 : List MOper := [o1 136 (.mov (.t 9)),
  o1 137 (.mov (.t 19)),
  o1 138 (.fld 1 (.t 16)),
  o1 139 (.ld false 1 (.t 138)),
  o1 140 (.bin .add (.t 139) (.i 1)),
  o1 141 (.callv (.t 136) [(.t 137), (.t 140)])]
def r145_32 : List MOper := [o1 142 (.bin .add (.t 129) (.i 1)),
  o1 129 (.mov (.t 142))]
def b145_5 : MCode := .seq (.reg false r145_28 [8, 9, 15, 16, 127, 128, 129, 130])
 (.seq (.cond 130 (.skip) (.exit 8))
 (.seq (.block 9 (.seq (.reg false r145_29 [8, 9, 15, 16, 19, 127, 128, 129])
 (.seq (.reg false r145_30 [8, 9, 15, 16, 19, 127, 128, 129, 135])
 (.cond 135 (.reg false r145_31 [8, 9, 15, 16, 127, 128, 129]) (.skip)))))
 (.reg false r145_32 [8, 9, 15, 16, 127, 128, 129])))
def b145_4 : MCode := .seq (.seq (.reg false r145_25 [8, 9, 15, 113])
 (.cond 113 (.skip) (.exit 6)))
 (.block 7 (.seq (.reg false r145_26 [8, 9, 15, 16])
 (.seq (.reg false r145_27 [8, 9, 15, 16, 127, 128, 129])
 (.block 8 (.loop [8, 9, 15, 16, 127, 128, 129] b145_5)))))
def r145_33 : List MOper := [o1 143 (.mov (.t 8)),
  o1 144 (.nilck (.t 143)),
  o1 145 (.fld 4 (.t 144)),
  o1 146 (.ld false 1 (.t 145)),
  o1 6 (.mov (.t 146))]
def c145 : MCode := .seq (.reg false r145_1 [1, 2, 3])
 (.seq (.reg false r145_2 [1, 2, 3, 7])
 (.seq (.seq (.reg false r145_3 [1, 2, 3, 7, 34])
 (.cond 34 (.seq (.reg false r145_4 [6])
 (.ret)) (.skip)))
 (.seq (.reg true r145_5 [2, 3, 7, 8])
 (.seq (.reg false r145_6 [2, 3, 7, 8, 9])
 (.seq (.seq (.reg false r145_7 [2, 3, 7, 8, 9, 50, 51, 52])
 (.block 0 (.loop [2, 3, 7, 8, 9, 50, 51, 52] b145_1)))
 (.seq (.seq (.reg false r145_12 [2, 3, 7, 8, 9, 76, 77])
 (.block 2 (.loop [2, 3, 7, 8, 9, 76, 77] b145_2)))
 (.seq (.seq (.reg false r145_18 [3, 8, 9, 94, 95, 96])
 (.block 4 (.loop [3, 8, 9, 94, 95, 96] b145_3)))
 (.seq (.reg false r145_24 [8, 9, 15])
 (.seq (.block 6 (.loop [8, 9, 15] b145_4))
 (.seq (.reg false r145_33 [6])
 (.ret)))))))))))
def m145 : MFunc := ⟨3, [.tmp 6], c145⟩
def r146_1 : List MOper := [o1 2 (.mov (.c (.fz .isnil 1 [])))]
def r146_2 : List MOper := [o1 3 (.mov (.t 0)),
  o1 4 (.isn (.t 3))]
def r146_3 : List MOper := [o1 2 (.mov (.c (.fz .isnil 1 [])))]
def r146_4 : List MOper := [o1 5 (.bslT 1 []),
  o1 6 (.mov (.t 0)),
  o1 7 (.app 1 (.t 5) (.t 6)),
  o1 2 (.mov (.t 7))]
def c146 : MCode := .seq (.reg false r146_1 [0])
 (.seq (.seq (.reg false r146_2 [0, 4])
 (.cond 4 (.seq (.reg false r146_3 [2])
 (.ret)) (.skip)))
 (.seq (.reg false r146_4 [2])
 (.ret)))
def m146 : MFunc := ⟨3, [.tmp 2], c146⟩
def r147_1 : List MOper := [o1 4 (.mov (.c (.fz .isnil 1 [])))]
def r147_2 : List MOper := [o1 9 (.mov (.t 1)),
  o1 10 (.bin .lss (.t 9) (.i 0))]
def r147_3 : List MOper := [o1 11 (.mkif 9 (.c (.unk))),
  n1 (.bad)]
def r147_4 : List MOper := [o1 13 (.mov (.t 0)),
  o1 14 (.len (.t 13)),
  o1 15 (.cvt .u64 (.t 14)),
  o1 16 (.mov (.t 1)),
  o1 17 (.cvt .u64 (.t 16)),
  o1 18 (.call 178 [(.t 15), (.t 17)]),
  o1 12 (.mov (.t 18)),
  o1 19 (.ext (.t 12) 0),
  o1 20 (.ext (.t 12) 1),
  o1 5 (.mov (.t 19)),
  o1 6 (.mov (.t 20))]
def r147_5 : List MOper := [o1 21 (.mov (.t 5)),
  o1 22 (.bin .gtr (.t 21) (.c (.int .u64 0))),
  o1 23 (.mov (.t 22)),
  o2 24 23 false (.mov (.t 6)),
  o2 25 23 false (.bin .gtr (.t 24) (.c (.int .u64 9223372036854775807))),
  o1 26 (.pick (.t 23) (.c (.bool true)) (.t 25))]
def r147_6 : List MOper := [o1 27 (.mkif 9 (.c (.unk))),
  n1 (.bad)]
def r147_7 : List MOper := [o1 28 (.mov (.t 6)),
  o1 29 (.cvt .i64 (.t 28)),
  o1 30 (.mksl 1 (.int .i64 0) (.t 29)),
  o1 7 (.mov (.t 30))]
def r147_8 : List MOper := [o1 31 (.mov (.t 7)),
  o1 32 (.mov (.t 0)),
  o1 33 (.cpy 1 (.t 31) (.t 32)),
  o1 8 (.mov (.t 33))]
def r147_9 : List MOper := [o1 34 (.mov (.t 8)),
  o1 35 (.mov (.t 7)),
  o1 36 (.len (.t 35)),
  o1 37 (.bin .lss (.t 34) (.t 36))]
def q147_10 : List MOper := [o1 38 (.mov (.t 8)),
  o1 39 (.mov (.t 7)),
  o1 40 (.mov (.t 8)),
  o1 41 (.slc 1 (.t 39) (some (.t 40)) none),
  o1 42 (.mov (.t 7)),
  o1 43 (.mov (.t 8)),
  o1 44 (.slc 1 (.t 42) none (some (.t 43))),
  ox (some 45) none .L false (.cpy 1 (.t 41) (.t 44)),
  o1 46 (.bin .add (.t 38) (.t 45)),
  o1 8 (.mov (.t 46))]
def r147_10 : List MOper := q147_10
def b147_1 : MCode := .seq (.seq (.reg false r147_9 [7, 8, 37])
 (.cond 37 (.skip) (.exit 0)))
 (.block 1 (.reg true r147_10 [7, 8]))
def r147_11 : List MOper := [o1 47 (.mov (.t 7)),
  o1 4 (.mov (.t 47))]
def c147 : MCode := .seq (.reg false r147_1 [0, 1])
 (.seq (.seq (.reg false r147_2 [0, 1, 10])
 (.cond 10 (.reg false r147_3 [0, 1]) (.skip)))
 (.seq (.reg false r147_4 [0, 5, 6])
 (.seq (.seq (.reg false r147_5 [0, 6, 26])
 (.cond 26 (.reg false r147_6 [0, 6]) (.skip)))
 (.seq (.reg false r147_7 [0, 7])
 (.seq (.reg false r147_8 [7, 8])
 (.seq (.block 0 (.loop [7, 8] b147_1))
 (.seq (.reg false r147_11 [4])
 (.ret))))))))
def m147 : MFunc := ⟨3, [.tmp 4], c147⟩
def r148_1 : List MOper := [o1 4 (.mov (.c (.fz .isnil 1 [])))]
def r148_2 : List MOper := [o1 5 (.mov (.t 0)),
  o1 6 (.nilck (.t 5)),
  o1 7 (.fld 0 (.t 6)),
  o1 8 (.ld true 2 (.t 7)),
  o1 9 (.mov (.t 1)),
  o1 10 (.call 39 [(.t 8), (.i 1), (.t 9)]),
  o1 4 (.mov (.t 10))]
def c148 : MCode := .seq (.reg false r148_1 [0, 1])
 (.seq (.reg false r148_2 [4])
 (.ret))
def m148 : MFunc := ⟨1, [.tmp 4], c148⟩
def r149_1 : List MOper := [o1 8 (.mov (.t 1)),
  o1 9 (.len (.t 8)),
  o1 10 (.mov (.i 0))]
def r149_2 : List MOper := [o1 11 (.bin .lss (.t 10) (.t 9))]
def r149_3 : List MOper := [o1 12 (.mov (.t 10)),
  o1 13 (.ixs 1 (.t 8) (.t 10)),
  o1 14 (.ld false 1 (.t 13)),
  o1 6 (.mov (.t 12)),
  o1 7 (.mov (.t 14))]
def r149_4 : List MOper := [o1 15 (.mov (.t 7)),
  o1 16 (.mov (.t 15)),
  o2 17 16 true (.mov (.t 0)),
  o2 18 16 true (.nilck (.t 17)),
  o2 19 16 true (.fld 0 (.t 18)),
  o2 20 16 true (.fld 0 (.t 19)),
  o2 21 16 true (.ld false 1 (.t 20)),
  o2 22 16 true (.mov (.t 6)),
  o2 23 16 true (.ixs 1 (.t 21) (.t 22)),
  o2 24 16 true (.ld false 1 (.t 23)),
  o2 25 16 true (.bin .eql (.t 24) (.i 1)),
  o1 26 (.pick (.t 16) (.t 25) (.c (.bool false))),
  o1 27 (.mov (.t 26)),
  o2 28 27 true (.mov (.t 0)),
  o2 29 27 true (.nilck (.t 28)),
  o2 30 27 true (.fld 4 (.t 29)),
  o2 31 27 true (.ld false 1 (.t 30)),
  o2 32 27 true (.mov (.t 6)),
  o2 33 27 true (.ixs 1 (.t 31) (.t 32)),
  o2 34 27 true (.ld false 1 (.t 33)),
  o2 35 27 true (.bin .lss (.t 34) (.i 0)),
  o1 36 (.pick (.t 27) (.t 35) (.c (.bool false)))]
def q149_5 : List MOper := [o1 37 (.mov (.t 0)),
  o1 38 (.nilck (.t 37)),
  o1 39 (.fld 4 (.t 38)),
  ox (some 40) none .R false (.ld false 1 (.t 39)),
  o1 41 (.mov (.t 6)),
  o1 42 (.mov (.t 0)),
  o1 43 (.mov (.t 6)),
  o1 44 (.mov (.t 2)),
  ox (some 45) none .R false (.call 179 [(.t 42), (.t 43), (.t 44)]),
  o1 46 (.ixs 1 (.t 40) (.t 41)),
  ox none none .L false (.st 1 (.t 46) (.t 45))]
def r149_5 : List MOper := q149_5
def r149_6 : List MOper := [o1 47 (.bin .add (.t 10) (.i 1)),
  o1 10 (.mov (.t 47))]
def b149_1 : MCode := .seq (.reg false r149_2 [0, 2, 8, 9, 10, 11])
 (.seq (.cond 11 (.skip) (.exit 0))
 (.seq (.block 1 (.seq (.reg false r149_3 [0, 2, 6, 7, 8, 9, 10])
 (.seq (.reg false r149_4 [0, 2, 6, 8, 9, 10, 36])
 (.cond 36 (.reg true r149_5 [0, 2, 8, 9, 10]) (.skip)))))
 (.reg false r149_6 [0, 2, 8, 9, 10])))
def c149 : MCode := .seq (.reg false r149_1 [0, 2, 8, 9, 10])
 (.block 0 (.loop [0, 2, 8, 9, 10] b149_1))
def m149 : MFunc := ⟨0, [], c149⟩
def r150_1 : List MOper := [o1 6 (.mov (.c (.fz .isnil 1 [])))]
def r150_2 : List MOper := [o1 9 (.mov (.t 0)),
  o1 10 (.nilck (.t 9)),
  o1 11 (.fld 0 (.t 10)),
  o1 12 (.ld true 2 (.t 11)),
  o1 13 (.call 41 [(.t 12), (.c (.fz .isnil 1 []))]),
  o1 7 (.mov (.t 13))]
def q150_3 : List MOper := [o1 14 (.mov (.t 0)),
  o1 15 (.nilck (.t 14)),
  o1 16 (.fld 0 (.t 15)),
  ox (some 17) none .R false (.ld true 2 (.t 16)),
  o1 18 (.mov (.t 1)),
  o1 19 (.mov (.t 0)),
  o1 20 (.nilck (.t 19)),
  o1 21 (.fld 0 (.t 20)),
  ox (some 22) none .R false (.ld true 2 (.t 21)),
  o1 23 (.mov (.t 0)),
  o1 24 (.nilck (.t 23)),
  o1 25 (.fld 0 (.t 24)),
  ox (some 26) none .R false (.ld true 2 (.t 25)),
  o1 27 (.mov (.t 2)),
  ox (some 28) none .R false (.call 41 [(.t 26), (.t 27)]),
  o1 29 (.mov (.t 0)),
  o1 30 (.mov (.t 7)),
  ox (some 31) none .R false (.call 148 [(.t 29), (.t 30)]),
  ox (some 32) none .R false (.call 40 [(.t 22), (.t 28), (.t 31)]),
  ox (some 33) none .R false (.call 68 [(.t 17), (.t 18), (.t 32)]),
  o1 8 (.mov (.t 33))]
def r150_3 : List MOper := q150_3
def r150_4 : List MOper := [o1 34 (.mov (.t 7)),
  o1 35 (.mov (.t 8)),
  o1 36 (.call 96 [(.t 34), (.t 35)])]
def r150_5 : List MOper := [o1 37 (.mov (.t 7)),
  o1 6 (.mov (.t 37))]
def r150_6 : List MOper := [o1 38 (.mov (.t 8)),
  o1 7 (.mov (.t 38))]
def b150_1 : MCode := .block 1 (.seq (.reg true r150_3 [0, 1, 2, 7, 8])
 (.seq (.seq (.reg false r150_4 [0, 1, 2, 7, 8, 36])
 (.cond 36 (.seq (.reg false r150_5 [6])
 (.ret)) (.skip)))
 (.reg false r150_6 [0, 1, 2, 7])))
def c150 : MCode := .seq (.reg false r150_1 [0, 1, 2])
 (.seq (.reg false r150_2 [0, 1, 2, 7])
 (.block 0 (.loop [0, 1, 2, 7] b150_1)))
def m150 : MFunc := ⟨1, [.tmp 6], c150⟩
def r151_1 : List MOper := [o1 4 (.mov (.c (.bool false)))]
def r151_2 : List MOper := [o1 5 (.mov (.t 1)),
  o1 6 (.mov (.t 0)),
  o1 7 (.len (.t 6)),
  o1 8 (.bin .lss (.t 5) (.t 7)),
  o1 9 (.mov (.t 8)),
  o2 10 9 true (.mov (.t 0)),
  o2 11 9 true (.mov (.t 1)),
  o2 12 9 true (.ixs 1 (.t 10) (.t 11)),
  o2 13 9 true (.ld false 1 (.t 12)),
  o1 14 (.pick (.t 9) (.t 13) (.c (.bool false))),
  o1 4 (.mov (.t 14))]
def c151 : MCode := .seq (.reg false r151_1 [0, 1])
 (.seq (.reg false r151_2 [4])
 (.ret))
def m151 : MFunc := ⟨3, [.tmp 4], c151⟩
def r152_1 : List MOper := [o1 6 (.mov (.c (.fz .isnil 1 [])))]
def r152_2 : List MOper := [o1 13 (.mov (.t 0)),
  o1 14 (.len (.t 13)),
  o1 15 (.mksl 1 (.bool false) (.t 14)),
  o1 7 (.mov (.t 15))]
def r152_3 : List MOper := [o1 8 (.tnil 1)]
def r152_4 : List MOper := [o1 16 (.mov (.t 7)),
  o1 17 (.len (.t 16)),
  o1 18 (.mov (.i 0))]
def r152_5 : List MOper := [o1 19 (.bin .lss (.t 18) (.t 17))]
def r152_6 : List MOper := [o1 20 (.mov (.t 18)),
  o1 9 (.mov (.t 20))]
def r152_7 : List MOper := [o1 21 (.mov (.t 1)),
  o1 22 (.mov (.t 9)),
  o1 23 (.call 48 [(.t 21), (.t 22)]),
  o1 24 (.mov (.t 23)),
  o2 25 24 true (.mov (.t 2)),
  o2 26 24 true (.mov (.t 9)),
  o2 27 24 true (.call 48 [(.t 25), (.t 26)]),
  o1 28 (.pick (.t 24) (.t 27) (.c (.bool false)))]
def r152_8 : List MOper := [o1 29 (.mov (.t 7)),
  o1 30 (.mov (.t 9)),
  o1 31 (.ixs 1 (.t 29) (.t 30)),
  n1 (.st 1 (.t 31) (.c (.bool true)))]
def r152_9 : List MOper := [o1 32 (.mov (.t 8)),
  o1 33 (.mov (.t 9)),
  o1 34 (.bsl false 1 [(.t 33)]),
  o1 35 (.app 1 (.t 32) (.t 34)),
  o1 8 (.mov (.t 35))]
def r152_10 : List MOper := [o1 36 (.bin .add (.t 18) (.i 1)),
  o1 18 (.mov (.t 36))]
def b152_1 : MCode := .seq (.reg false r152_5 [0, 1, 2, 7, 8, 17, 18, 19])
 (.seq (.cond 19 (.skip) (.exit 0))
 (.seq (.block 1 (.seq (.reg false r152_6 [0, 1, 2, 7, 8, 9, 17, 18])
 (.seq (.reg false r152_7 [0, 1, 2, 7, 8, 9, 17, 18, 28])
 (.cond 28 (.seq (.reg false r152_8 [0, 1, 2, 7, 8, 9, 17, 18])
 (.reg false r152_9 [0, 1, 2, 7, 8, 17, 18])) (.skip)))))
 (.reg false r152_10 [0, 1, 2, 7, 8, 17, 18])))
def r152_11 : List MOper := [o1 37 (.mov (.t 8)),
  o1 38 (.len (.t 37)),
  o1 39 (.bin .gtr (.t 38) (.i 0))]
def r152_12 : List MOper := [o1 40 (.mov (.t 8)),
  o1 41 (.mov (.t 8)),
  o1 42 (.len (.t 41)),
  o1 43 (.bin .sub (.t 42) (.i 1)),
  o1 44 (.ixs 1 (.t 40) (.t 43)),
  o1 45 (.ld false 1 (.t 44)),
  o1 10 (.mov (.t 45))]
def r152_13 : List MOper := [o1 46 (.mov (.t 8)),
  o1 47 (.mov (.t 8)),
  o1 48 (.len (.t 47)),
  o1 49 (.bin .sub (.t 48) (.i 1)),
  o1 50 (.slc 1 (.t 46) none (some (.t 49))),
  o1 8 (.mov (.t 50))]
def r152_14 : List MOper := [o1 51 (.mov (.t 0)),
  o1 52 (.mov (.t 10)),
  o1 53 (.ixs 1 (.t 51) (.t 52)),
  o1 54 (.ld false 1 (.t 53)),
  o1 55 (.len (.t 54)),
  o1 56 (.mov (.i 0))]
def r152_15 : List MOper := [o1 57 (.bin .lss (.t 56) (.t 55))]
def r152_16 : List MOper := [o1 58 (.ixs 1 (.t 54) (.t 56)),
  o1 59 (.ld false 1 (.t 58)),
  o1 12 (.mov (.t 59))]
def r152_17 : List MOper := [o1 60 (.mov (.t 7)),
  o1 61 (.mov (.t 12)),
  o1 62 (.ixs 1 (.t 60) (.t 61)),
  o1 63 (.ld false 1 (.t 62)),
  o1 64 (.not (.t 63)),
  o1 65 (.mov (.t 64)),
  o2 66 65 true (.mov (.t 2)),
  o2 67 65 true (.mov (.t 12)),
  o2 68 65 true (.call 48 [(.t 66), (.t 67)]),
  o1 69 (.pick (.t 65) (.t 68) (.c (.bool false)))]
def r152_18 : List MOper := [o1 70 (.mov (.t 7)),
  o1 71 (.mov (.t 12)),
  o1 72 (.ixs 1 (.t 70) (.t 71)),
  n1 (.st 1 (.t 72) (.c (.bool true)))]
def r152_19 : List MOper := [o1 73 (.mov (.t 8)),
  o1 74 (.mov (.t 12)),
  o1 75 (.bsl false 1 [(.t 74)]),
  o1 76 (.app 1 (.t 73) (.t 75)),
  o1 8 (.mov (.t 76))]
def r152_20 : List MOper := [o1 77 (.bin .add (.t 56) (.i 1)),
  o1 56 (.mov (.t 77))]
def b152_3 : MCode := .seq (.reg false r152_15 [0, 2, 7, 8, 54, 55, 56, 57])
 (.seq (.cond 57 (.skip) (.exit 4))
 (.seq (.block 5 (.seq (.reg false r152_16 [0, 2, 7, 8, 12, 54, 55, 56])
 (.seq (.reg false r152_17 [0, 2, 7, 8, 12, 54, 55, 56, 69])
 (.cond 69 (.seq (.reg false r152_18 [0, 2, 7, 8, 12, 54, 55, 56])
 (.reg false r152_19 [0, 2, 7, 8, 54, 55, 56])) (.skip)))))
 (.reg false r152_20 [0, 2, 7, 8, 54, 55, 56])))
def b152_2 : MCode := .seq (.seq (.reg false r152_11 [0, 2, 7, 8, 39])
 (.cond 39 (.skip) (.exit 2)))
 (.block 3 (.seq (.reg false r152_12 [0, 2, 7, 8, 10])
 (.seq (.reg false r152_13 [0, 2, 7, 8, 10])
 (.seq (.reg false r152_14 [0, 2, 7, 8, 54, 55, 56])
 (.block 4 (.loop [0, 2, 7, 8, 54, 55, 56] b152_3))))))
def r152_21 : List MOper := [o1 78 (.mov (.t 7)),
  o1 6 (.mov (.t 78))]
def c152 : MCode := .seq (.reg false r152_1 [0, 1, 2])
 (.seq (.reg false r152_2 [0, 1, 2, 7])
 (.seq (.reg false r152_3 [0, 1, 2, 7, 8])
 (.seq (.seq (.reg false r152_4 [0, 1, 2, 7, 8, 17, 18])
 (.block 0 (.loop [0, 1, 2, 7, 8, 17, 18] b152_1)))
 (.seq (.block 2 (.loop [0, 2, 7, 8] b152_2))
 (.seq (.reg false r152_21 [6])
 (.ret))))))
def m152 : MFunc := ⟨3, [.tmp 6], c152⟩
def r153_1 : List MOper := [o1 4 (.mov (.c (.fz .isnil 1 [])))]
def r153_2 : List MOper := [o1 31 (.mov (.t 0)),
  o1 32 (.len (.t 31)),
  o1 33 (.mksl 1 (.int .i64 0) (.t 32)),
  o1 5 (.mov (.t 33))]
def r153_3 : List MOper := [o1 34 (.mov (.t 0)),
  o1 35 (.len (.t 34)),
  o1 36 (.mkrows 1 (.t 35)),
  o1 6 (.mov (.t 36))]
def r153_4 : List MOper := [o1 37 (.mov (.t 0)),
  o1 38 (.len (.t 37)),
  o1 39 (.mov (.i 0))]
def r153_5 : List MOper := [o1 40 (.bin .lss (.t 39) (.t 38))]
def r153_6 : List MOper := [o1 41 (.mov (.t 39)),
  o1 42 (.ixs 1 (.t 37) (.t 39)),
  o1 43 (.ld false 1 (.t 42)),
  o1 7 (.mov (.t 41)),
  o1 8 (.mov (.t 43))]
def r153_7 : List MOper := [o1 44 (.mov (.t 5)),
  o1 45 (.mov (.t 7)),
  o1 46 (.ixs 1 (.t 44) (.t 45)),
  n1 (.st 1 (.t 46) (.i (-1)))]
def r153_8 : List MOper := [o1 47 (.mov (.t 8)),
  o1 48 (.len (.t 47)),
  o1 49 (.mov (.i 0))]
def r153_9 : List MOper := [o1 50 (.bin .lss (.t 49) (.t 48))]
def r153_10 : List MOper := [o1 51 (.ixs 1 (.t 47) (.t 49)),
  o1 52 (.ld false 1 (.t 51)),
  o1 10 (.mov (.t 52))]
def r153_11 : List MOper := [o1 53 (.mov (.t 6)),
  o1 54 (.mov (.t 10)),
  o1 55 (.mov (.t 6)),
  o1 56 (.mov (.t 10)),
  o1 57 (.ixs 1 (.t 55) (.t 56)),
  o1 58 (.ld false 1 (.t 57)),
  o1 59 (.mov (.t 7)),
  o1 60 (.bsl false 1 [(.t 59)]),
  o1 61 (.app 1 (.t 58) (.t 60)),
  o1 62 (.ixs 1 (.t 53) (.t 54)),
  n1 (.st 1 (.t 62) (.t 61))]
def r153_12 : List MOper := [o1 63 (.bin .add (.t 49) (.i 1)),
  o1 49 (.mov (.t 63))]
def b153_2 : MCode := .seq (.reg false r153_9 [0, 1, 5, 6, 7, 37, 38, 39, 47, 48, 49, 50])
 (.seq (.cond 50 (.skip) (.exit 2))
 (.seq (.block 3 (.seq (.reg false r153_10 [0, 1, 5, 6, 7, 10, 37, 38, 39, 47, 48, 49])
 (.reg false r153_11 [0, 1, 5, 6, 7, 37, 38, 39, 47, 48, 49])))
 (.reg false r153_12 [0, 1, 5, 6, 7, 37, 38, 39, 47, 48, 49])))
def r153_13 : List MOper := [o1 64 (.bin .add (.t 39) (.i 1)),
  o1 39 (.mov (.t 64))]
def b153_1 : MCode := .seq (.reg false r153_5 [0, 1, 5, 6, 37, 38, 39, 40])
 (.seq (.cond 40 (.skip) (.exit 0))
 (.seq (.block 1 (.seq (.reg false r153_6 [0, 1, 5, 6, 7, 8, 37, 38, 39])
 (.seq (.reg false r153_7 [0, 1, 5, 6, 7, 8, 37, 38, 39])
 (.seq (.reg false r153_8 [0, 1, 5, 6, 7, 37, 38, 39, 47, 48, 49])
 (.block 2 (.loop [0, 1, 5, 6, 7, 37, 38, 39, 47, 48, 49] b153_2))))))
 (.reg false r153_13 [0, 1, 5, 6, 37, 38, 39])))
def r153_14 : List MOper := [o1 65 (.mov (.t 0)),
  o1 66 (.len (.t 65)),
  o1 67 (.mksl 1 (.bool false) (.t 66)),
  o1 11 (.mov (.t 67))]
def r153_15 : List MOper := [o1 12 (.tnil 1)]
def r153_16 : List MOper := [o1 68 (.mov (.t 0)),
  o1 69 (.len (.t 68)),
  o1 70 (.mov (.i 0))]
def r153_17 : List MOper := [o1 71 (.bin .lss (.t 70) (.t 69))]
def r153_18 : List MOper := [o1 72 (.mov (.t 70)),
  o1 13 (.mov (.t 72))]
def r153_19 : List MOper := [o1 73 (.mov (.t 1)),
  o1 74 (.mov (.t 13)),
  o1 75 (.call 48 [(.t 73), (.t 74)]),
  o1 76 (.not (.t 75)),
  o1 77 (.mov (.t 76)),
  o2 78 77 false (.mov (.t 11)),
  o2 79 77 false (.mov (.t 13)),
  o2 80 77 false (.ixs 1 (.t 78) (.t 79)),
  o2 81 77 false (.ld false 1 (.t 80)),
  o1 82 (.pick (.t 77) (.c (.bool true)) (.t 81))]
def r153_20 : List MOper := [o1 83 (.mov (.t 13)),
  o1 84 (.bslT 1 [(.t 83)]),
  o1 85 (.bslT 1 [(.i 0)]),
  o1 14 (.mov (.t 84)),
  o1 15 (.mov (.t 85))]
def r153_21 : List MOper := [o1 86 (.mov (.t 11)),
  o1 87 (.mov (.t 13)),
  o1 88 (.ixs 1 (.t 86) (.t 87)),
  n1 (.st 1 (.t 88) (.c (.bool true)))]
def r153_22 : List MOper := [o1 89 (.mov (.t 14)),
  o1 90 (.len (.t 89)),
  o1 91 (.bin .gtr (.t 90) (.i 0))]
def r153_23 : List MOper := [o1 92 (.mov (.t 14)),
  o1 93 (.len (.t 92)),
  o1 94 (.bin .sub (.t 93) (.i 1)),
  o1 16 (.mov (.t 94))]
def r153_24 : List MOper := [o1 95 (.mov (.t 14)),
  o1 96 (.mov (.t 16)),
  o1 97 (.ixs 1 (.t 95) (.t 96)),
  o1 98 (.ld false 1 (.t 97)),
  o1 17 (.mov (.t 98))]
def q153_25 : List MOper := [o1 99 (.mov (.t 15)),
  o1 100 (.mov (.t 16)),
  o1 101 (.ixs 1 (.t 99) (.t 100)),
  ox (some 102) none .R false (.ld false 1 (.t 101)),
  o1 103 (.mov (.t 0)),
  o1 104 (.mov (.t 17)),
  o1 105 (.ixs 1 (.t 103) (.t 104)),
  ox (some 106) none .R false (.ld false 1 (.t 105)),
  o1 107 (.len (.t 106)),
  o1 108 (.bin .lss (.t 102) (.t 107))]
def r153_25 : List MOper := q153_25
def q153_26 : List MOper := [o1 109 (.mov (.t 0)),
  o1 110 (.mov (.t 17)),
  o1 111 (.ixs 1 (.t 109) (.t 110)),
  ox (some 112) none .R false (.ld false 1 (.t 111)),
  o1 113 (.mov (.t 15)),
  o1 114 (.mov (.t 16)),
  o1 115 (.ixs 1 (.t 113) (.t 114)),
  ox (some 116) none .R false (.ld false 1 (.t 115)),
  o1 117 (.ixs 1 (.t 112) (.t 116)),
  ox (some 118) none .R false (.ld false 1 (.t 117)),
  o1 18 (.mov (.t 118))]
def r153_26 : List MOper := q153_26
def r153_27 : List MOper := [o1 119 (.mov (.t 15)),
  o1 120 (.mov (.t 16)),
  o1 121 (.ixs 1 (.t 119) (.t 120)),
  o1 122 (.ld false 1 (.t 121)),
  o1 123 (.bin .add (.t 122) (.i 1)),
  o1 124 (.ixs 1 (.t 119) (.t 120)),
  n1 (.st 1 (.t 124) (.t 123))]
def r153_28 : List MOper := [o1 125 (.mov (.t 1)),
  o1 126 (.mov (.t 18)),
  o1 127 (.call 48 [(.t 125), (.t 126)]),
  o1 128 (.mov (.t 127)),
  o2 129 128 true (.mov (.t 11)),
  o2 130 128 true (.mov (.t 18)),
  o2 131 128 true (.ixs 1 (.t 129) (.t 130)),
  o2 132 128 true (.ld false 1 (.t 131)),
  o2 133 128 true (.not (.t 132)),
  o1 134 (.pick (.t 128) (.t 133) (.c (.bool false)))]
def r153_29 : List MOper := [o1 135 (.mov (.t 11)),
  o1 136 (.mov (.t 18)),
  o1 137 (.ixs 1 (.t 135) (.t 136)),
  n1 (.st 1 (.t 137) (.c (.bool true)))]
def r153_30 : List MOper := [o1 138 (.mov (.t 14)),
  o1 139 (.mov (.t 18)),
  o1 140 (.bsl false 1 [(.t 139)]),
  o1 141 (.app 1 (.t 138) (.t 140)),
  o1 142 (.mov (.t 15)),
  o1 143 (.bsl false 1 [(.i 0)]),
  o1 144 (.app 1 (.t 142) (.t 143)),
  o1 14 (.mov (.t 141)),
  o1 15 (.mov (.t 144))]
def r153_31 : List MOper := [o1 145 (.mov (.t 12)),
  o1 146 (.mov (.t 17)),
  o1 147 (.bsl false 1 [(.t 146)]),
  o1 148 (.app 1 (.t 145) (.t 147)),
  o1 12 (.mov (.t 148))]
def q153_32 : List MOper := [o1 149 (.mov (.t 14)),
  o1 150 (.mov (.t 16)),
  o1 151 (.slc 1 (.t 149) none (some (.t 150))),
  o1 152 (.mov (.t 15)),
  o1 153 (.mov (.t 16)),
  o1 154 (.slc 1 (.t 152) none (some (.t 153))),
  o1 14 (.mov (.t 151)),
  o1 15 (.mov (.t 154))]
def r153_32 : List MOper := q153_32
def b153_4 : MCode := .seq (.seq (.reg false r153_22 [0, 1, 5, 6, 11, 12, 14, 15, 69, 70, 91])
 (.cond 91 (.skip) (.exit 6)))
 (.block 7 (.seq (.reg false r153_23 [0, 1, 5, 6, 11, 12, 14, 15, 16, 69, 70])
 (.seq (.reg false r153_24 [0, 1, 5, 6, 11, 12, 14, 15, 16, 17, 69, 70])
 (.seq (.seq (.reg true r153_25 [0, 1, 5, 6, 11, 12, 14, 15, 16, 17, 69, 70, 108])
 (.cond 108 (.seq (.reg true r153_26 [0, 1, 5, 6, 11, 12, 14, 15, 16, 18, 69, 70])
 (.seq (.reg false r153_27 [0, 1, 5, 6, 11, 12, 14, 15, 18, 69, 70])
 (.seq (.seq (.reg false r153_28 [0, 1, 5, 6, 11, 12, 14, 15, 18, 69, 70, 134])
 (.cond 134 (.seq (.reg false r153_29 [0, 1, 5, 6, 11, 12, 14, 15, 18, 69, 70])
 (.reg false r153_30 [0, 1, 5, 6, 11, 12, 14, 15, 69, 70])) (.skip)))
 (.exit 7)))) (.skip)))
 (.seq (.reg false r153_31 [0, 1, 5, 6, 11, 12, 14, 15, 16, 69, 70])
 (.reg true r153_32 [0, 1, 5, 6, 11, 12, 14, 15, 69, 70]))))))
def r153_33 : List MOper := [o1 155 (.bin .add (.t 70) (.i 1)),
  o1 70 (.mov (.t 155))]
def b153_3 : MCode := .seq (.reg false r153_17 [0, 1, 5, 6, 11, 12, 69, 70, 71])
 (.seq (.cond 71 (.skip) (.exit 4))
 (.seq (.block 5 (.seq (.reg false r153_18 [0, 1, 5, 6, 11, 12, 13, 69, 70])
 (.seq (.seq (.reg false r153_19 [0, 1, 5, 6, 11, 12, 13, 69, 70, 82])
 (.cond 82 (.exit 5) (.skip)))
 (.seq (.reg false r153_20 [0, 1, 5, 6, 11, 12, 13, 14, 15, 69, 70])
 (.seq (.reg false r153_21 [0, 1, 5, 6, 11, 12, 14, 15, 69, 70])
 (.block 6 (.loop [0, 1, 5, 6, 11, 12, 14, 15, 69, 70] b153_4)))))))
 (.reg false r153_33 [0, 1, 5, 6, 11, 12, 69, 70])))
def r153_34 : List MOper := [o1 156 (.mov (.t 0)),
  o1 157 (.len (.t 156)),
  o1 158 (.mksl 1 (.bool false) (.t 157)),
  o1 19 (.mov (.t 158))]
def r153_35 : List MOper := [o1 159 (.mov (.t 12)),
  o1 160 (.len (.t 159)),
  o1 161 (.bin .sub (.t 160) (.i 1)),
  o1 20 (.mov (.t 161))]
def r153_36 : List MOper := [o1 162 (.mov (.t 20)),
  o1 163 (.bin .geq (.t 162) (.i 0))]
def r153_37 : List MOper := [o1 166 (.mov (.t 12)),
  o1 167 (.mov (.t 20)),
  o1 168 (.ixs 1 (.t 166) (.t 167)),
  o1 169 (.ld false 1 (.t 168)),
  o1 21 (.mov (.t 169))]
def r153_38 : List MOper := [o1 170 (.mov (.t 19)),
  o1 171 (.mov (.t 21)),
  o1 172 (.ixs 1 (.t 170) (.t 171)),
  o1 173 (.ld false 1 (.t 172))]
def r153_39 : List MOper := [o1 174 (.mov (.t 19)),
  o1 175 (.mov (.t 21)),
  o1 176 (.ixs 1 (.t 174) (.t 175)),
  n1 (.st 1 (.t 176) (.c (.bool true)))]
def r153_40 : List MOper := [o1 177 (.mov (.t 21)),
  o1 178 (.bslT 1 [(.t 177)]),
  o1 22 (.mov (.t 178))]
def r153_41 : List MOper := [o1 23 (.mov (.i 0))]
def r153_42 : List MOper := [o1 179 (.mov (.t 23)),
  o1 180 (.mov (.t 22)),
  o1 181 (.len (.t 180)),
  o1 182 (.bin .lss (.t 179) (.t 181))]
def r153_43 : List MOper := [o1 185 (.mov (.t 6)),
  o1 186 (.mov (.t 22)),
  o1 187 (.mov (.t 23)),
  o1 188 (.ixs 1 (.t 186) (.t 187)),
  o1 189 (.ld false 1 (.t 188)),
  o1 190 (.ixs 1 (.t 185) (.t 189)),
  o1 191 (.ld false 1 (.t 190)),
  o1 192 (.len (.t 191)),
  o1 193 (.mov (.i 0))]
def r153_44 : List MOper := [o1 194 (.bin .lss (.t 193) (.t 192))]
def r153_45 : List MOper := [o1 195 (.ixs 1 (.t 191) (.t 193)),
  o1 196 (.ld false 1 (.t 195)),
  o1 25 (.mov (.t 196))]
def r153_46 : List MOper := [o1 197 (.mov (.t 1)),
  o1 198 (.mov (.t 25)),
  o1 199 (.call 48 [(.t 197), (.t 198)]),
  o1 200 (.mov (.t 199)),
  o2 201 200 true (.mov (.t 19)),
  o2 202 200 true (.mov (.t 25)),
  o2 203 200 true (.ixs 1 (.t 201) (.t 202)),
  o2 204 200 true (.ld false 1 (.t 203)),
  o2 205 200 true (.not (.t 204)),
  o1 206 (.pick (.t 200) (.t 205) (.c (.bool false)))]
def r153_47 : List MOper := [o1 207 (.mov (.t 19)),
  o1 208 (.mov (.t 25)),
  o1 209 (.ixs 1 (.t 207) (.t 208)),
  n1 (.st 1 (.t 209) (.c (.bool true)))]
def r153_48 : List MOper := [o1 210 (.mov (.t 22)),
  o1 211 (.mov (.t 25)),
  o1 212 (.bsl false 1 [(.t 211)]),
  o1 213 (.app 1 (.t 210) (.t 212)),
  o1 22 (.mov (.t 213))]
def r153_49 : List MOper := [o1 214 (.bin .add (.t 193) (.i 1)),
  o1 193 (.mov (.t 214))]
def b153_7 : MCode := .seq (.reg false r153_44 [0, 1, 5, 6, 12, 19, 20, 21, 22, 23, 191, 192, 193, 194])
 (.seq (.cond 194 (.skip) (.exit 12))
 (.seq (.block 13 (.seq (.reg false r153_45 [0, 1, 5, 6, 12, 19, 20, 21, 22, 23, 25, 191, 192, 193])
 (.seq (.reg false r153_46 [0, 1, 5, 6, 12, 19, 20, 21, 22, 23, 25, 191, 192, 193, 206])
 (.cond 206 (.seq (.reg false r153_47 [0, 1, 5, 6, 12, 19, 20, 21, 22, 23, 25, 191, 192, 193])
 (.reg false r153_48 [0, 1, 5, 6, 12, 19, 20, 21, 22, 23, 191, 192, 193])) (.skip)))))
 (.reg false r153_49 [0, 1, 5, 6, 12, 19, 20, 21, 22, 23, 191, 192, 193])))
def r153_50 : List MOper := [o1 183 (.mov (.t 23)),
  o1 184 (.bin .add (.t 183) (.i 1)),
  o1 23 (.mov (.t 184))]
def b153_6 : MCode := .seq (.seq (.reg false r153_42 [0, 1, 5, 6, 12, 19, 20, 21, 22, 23, 182])
 (.cond 182 (.skip) (.exit 10)))
 (.seq (.block 11 (.seq (.reg false r153_43 [0, 1, 5, 6, 12, 19, 20, 21, 22, 23, 191, 192, 193])
 (.block 12 (.loop [0, 1, 5, 6, 12, 19, 20, 21, 22, 23, 191, 192, 193] b153_7))))
 (.reg false r153_50 [0, 1, 5, 6, 12, 19, 20, 21, 22, 23]))
def r153_51 : List MOper := [o1 215 (.mov (.t 22)),
  o1 216 (.len (.t 215)),
  o1 217 (.bin .gtr (.t 216) (.i 1)),
  o1 26 (.mov (.t 217))]
def r153_52 : List MOper := [o1 218 (.mov (.t 0)),
  o1 219 (.mov (.t 21)),
  o1 220 (.ixs 1 (.t 218) (.t 219)),
  o1 221 (.ld false 1 (.t 220)),
  o1 222 (.len (.t 221)),
  o1 223 (.mov (.i 0))]
def r153_53 : List MOper := [o1 224 (.bin .lss (.t 223) (.t 222))]
def r153_54 : List MOper := [o1 225 (.ixs 1 (.t 221) (.t 223)),
  o1 226 (.ld false 1 (.t 225)),
  o1 28 (.mov (.t 226))]
def r153_55 : List MOper := [o1 227 (.mov (.t 26)),
  o1 228 (.mov (.t 227)),
  o2 229 228 false (.mov (.t 28)),
  o2 230 228 false (.mov (.t 21)),
  o2 231 228 false (.bin .eql (.t 229) (.t 230)),
  o1 232 (.pick (.t 228) (.c (.bool true)) (.t 231)),
  o1 26 (.mov (.t 232))]
def r153_56 : List MOper := [o1 233 (.bin .add (.t 223) (.i 1)),
  o1 223 (.mov (.t 233))]
def b153_8 : MCode := .seq (.reg false r153_53 [0, 1, 5, 6, 12, 19, 20, 21, 22, 26, 221, 222, 223, 224])
 (.seq (.cond 224 (.skip) (.exit 14))
 (.seq (.block 15 (.seq (.reg false r153_54 [0, 1, 5, 6, 12, 19, 20, 21, 22, 26, 28, 221, 222, 223])
 (.reg false r153_55 [0, 1, 5, 6, 12, 19, 20, 21, 22, 26, 221, 222, 223])))
 (.reg false r153_56 [0, 1, 5, 6, 12, 19, 20, 21, 22, 26, 221, 222, 223])))
def r153_57 : List MOper := [o1 234 (.mov (.t 26))]
def r153_58 : List MOper := [o1 235 (.mov (.t 22)),
  o1 236 (.len (.t 235)),
  o1 237 (.mov (.i 0))]
def r153_59 : List MOper := [o1 238 (.bin .lss (.t 237) (.t 236))]
def r153_60 : List MOper := [o1 239 (.ixs 1 (.t 235) (.t 237)),
  o1 240 (.ld false 1 (.t 239)),
  o1 30 (.mov (.t 240))]
def r153_61 : List MOper := [o1 241 (.mov (.t 5)),
  o1 242 (.mov (.t 30)),
  o1 243 (.mov (.t 21)),
  o1 244 (.ixs 1 (.t 241) (.t 242)),
  n1 (.st 1 (.t 244) (.t 243))]
def r153_62 : List MOper := [o1 245 (.bin .add (.t 237) (.i 1)),
  o1 237 (.mov (.t 245))]
def b153_9 : MCode := .seq (.reg false r153_59 [0, 1, 5, 6, 12, 19, 20, 21, 235, 236, 237, 238])
 (.seq (.cond 238 (.skip) (.exit 16))
 (.seq (.block 17 (.seq (.reg false r153_60 [0, 1, 5, 6, 12, 19, 20, 21, 30, 235, 236, 237])
 (.reg false r153_61 [0, 1, 5, 6, 12, 19, 20, 21, 235, 236, 237])))
 (.reg false r153_62 [0, 1, 5, 6, 12, 19, 20, 21, 235, 236, 237])))
def r153_63 : List MOper := [o1 164 (.mov (.t 20)),
  o1 165 (.bin .sub (.t 164) (.i 1)),
  o1 20 (.mov (.t 165))]
def b153_5 : MCode := .seq (.seq (.reg false r153_36 [0, 1, 5, 6, 12, 19, 20, 163])
 (.cond 163 (.skip) (.exit 8)))
 (.seq (.block 9 (.seq (.reg false r153_37 [0, 1, 5, 6, 12, 19, 20, 21])
 (.seq (.seq (.reg false r153_38 [0, 1, 5, 6, 12, 19, 20, 21, 173])
 (.cond 173 (.exit 9) (.skip)))
 (.seq (.reg false r153_39 [0, 1, 5, 6, 12, 19, 20, 21])
 (.seq (.reg false r153_40 [0, 1, 5, 6, 12, 19, 20, 21, 22])
 (.seq (.seq (.reg false r153_41 [0, 1, 5, 6, 12, 19, 20, 21, 22, 23])
 (.block 10 (.loop [0, 1, 5, 6, 12, 19, 20, 21, 22, 23] b153_6)))
 (.seq (.reg false r153_51 [0, 1, 5, 6, 12, 19, 20, 21, 22, 26])
 (.seq (.seq (.reg false r153_52 [0, 1, 5, 6, 12, 19, 20, 21, 22, 26, 221, 222, 223])
 (.block 14 (.loop [0, 1, 5, 6, 12, 19, 20, 21, 22, 26, 221, 222, 223] b153_8)))
 (.seq (.reg false r153_57 [0, 1, 5, 6, 12, 19, 20, 21, 22, 234])
 (.cond 234 (.seq (.reg false r153_58 [0, 1, 5, 6, 12, 19, 20, 21, 235, 236, 237])
 (.block 16 (.loop [0, 1, 5, 6, 12, 19, 20, 21, 235, 236, 237] b153_9))) (.skip)))))))))))
 (.reg false r153_63 [0, 1, 5, 6, 12, 19, 20]))
def r153_64 : List MOper := [o1 246 (.mov (.t 5)),
  o1 4 (.mov (.t 246))]
def c153 : MCode := .seq (.reg false r153_1 [0, 1])
 (.seq (.reg false r153_2 [0, 1, 5])
 (.seq (.reg false r153_3 [0, 1, 5, 6])
 (.seq (.seq (.reg false r153_4 [0, 1, 5, 6, 37, 38, 39])
 (.block 0 (.loop [0, 1, 5, 6, 37, 38, 39] b153_1)))
 (.seq (.reg false r153_14 [0, 1, 5, 6, 11])
 (.seq (.reg false r153_15 [0, 1, 5, 6, 11, 12])
 (.seq (.seq (.reg false r153_16 [0, 1, 5, 6, 11, 12, 69, 70])
 (.block 4 (.loop [0, 1, 5, 6, 11, 12, 69, 70] b153_3)))
 (.seq (.reg false r153_34 [0, 1, 5, 6, 12, 19])
 (.seq (.seq (.reg false r153_35 [0, 1, 5, 6, 12, 19, 20])
 (.block 8 (.loop [0, 1, 5, 6, 12, 19, 20] b153_5)))
 (.seq (.reg false r153_64 [4])
 (.ret))))))))))
def m153 : MFunc := ⟨3, [.tmp 4], c153⟩
def r154_1 : List MOper := [o1 2 (.box (.t 0)),
  o1 4 (.mov (.c (.fz .isnil 1 [])))]
def r154_2 : List MOper := [o1 5 (.mov (.t 1)),
  o1 6 (.len (.t 5)),
  o1 7 (.bin .eql (.t 6) (.i 0))]
def r154_3 : List MOper := [o1 8 (.ld true 2 (.t 2)),
  o1 9 (.call 41 [(.t 8), (.c (.fz .isnil 1 []))]),
  o1 10 (.bsl false 1 [(.t 9)]),
  o1 4 (.mov (.t 10))]
def r154_4 : List MOper := [o1 11 (.mov (.t 1)),
  o1 4 (.mov (.t 11))]
def c154 : MCode := .seq (.reg false r154_1 [1, 2])
 (.seq (.seq (.reg false r154_2 [1, 2, 7])
 (.cond 7 (.seq (.reg false r154_3 [4])
 (.ret)) (.skip)))
 (.seq (.reg false r154_4 [4])
 (.ret)))
def m154 : MFunc := ⟨3, [.tmp 4], c154⟩
def r155_1 : List MOper := [o1 6 (.mov (.c (.fz .isnil 1 [])))]
def q155_2 : List MOper := [o1 10 (.mov (.t 0)),
  o1 11 (.nilck (.t 10)),
  o1 12 (.fld 0 (.t 11)),
  ox (some 13) none .R false (.ld true 2 (.t 12)),
  o1 14 (.mov (.t 1)),
  o1 15 (.mov (.t 0)),
  o1 16 (.mov (.t 2)),
  ox (some 17) none .R false (.call 180 [(.t 15), (.t 16)]),
  ox (some 18) none .R false (.call 40 [(.t 13), (.t 14), (.t 17)]),
  o1 7 (.mov (.t 18))]
def r155_2 : List MOper := q155_2
def r155_3 : List MOper := [o1 19 (.mov (.t 0)),
  o1 20 (.nilck (.t 19)),
  o1 21 (.fld 0 (.t 20)),
  o1 22 (.ld true 2 (.t 21)),
  o1 23 (.call 40 [(.t 22), (.c (.fz .isnil 1 [])), (.c (.fz .isnil 1 []))]),
  o1 8 (.mov (.t 23))]
def r155_4 : List MOper := [o1 24 (.mov (.t 0)),
  o1 25 (.mov (.t 7)),
  o1 26 (.mov (.t 8)),
  o1 27 (.call 181 [(.t 24), (.t 25), (.t 26)]),
  o1 9 (.mov (.t 27))]
def r155_5 : List MOper := [o1 28 (.mov (.t 9)),
  o1 29 (.mov (.t 8)),
  o1 30 (.call 96 [(.t 28), (.t 29)])]
def r155_6 : List MOper := [o1 31 (.mov (.t 8)),
  o1 6 (.mov (.t 31))]
def r155_7 : List MOper := [o1 32 (.mov (.t 9)),
  o1 8 (.mov (.t 32))]
def b155_1 : MCode := .block 1 (.seq (.reg false r155_4 [0, 7, 8, 9])
 (.seq (.seq (.reg false r155_5 [0, 7, 8, 9, 30])
 (.cond 30 (.seq (.reg false r155_6 [6])
 (.ret)) (.skip)))
 (.reg false r155_7 [0, 7, 8])))
def c155 : MCode := .seq (.reg false r155_1 [0, 1, 2])
 (.seq (.reg true r155_2 [0, 7])
 (.seq (.reg false r155_3 [0, 7, 8])
 (.block 0 (.loop [0, 7, 8] b155_1))))
def m155 : MFunc := ⟨1, [.tmp 6], c155⟩
def r156_1 : List MOper := [o1 4 (.mov (.c (.fz .isnil 1 [])))]
def r156_2 : List MOper := [o1 9 (.mov (.t 0)),
  o1 10 (.len (.t 9)),
  o1 5 (.mov (.t 10))]
def q156_3 : List MOper := [o1 11 (.mov (.t 0)),
  o1 12 (.mov (.t 1)),
  o1 13 (.mov (.t 5)),
  ox (some 14) none .A false (.mksl 1 (.int .i64 0) (.t 13)),
  o1 15 (.mov (.t 5)),
  ox (some 16) none .A false (.mksl 1 (.int .i64 0) (.t 15)),
  o1 17 (.mov (.t 5)),
  ox (some 18) none .A false (.mksl 1 (.bool false) (.t 17)),
  ox (some 19) none .L false (.build [.fz .isnil 1 [], .fz .isnil 1 [], .fz .isnil 1 [], .fz .isnil 1 [], .fz .isnil 1 [], .int .i64 0, .fz .isnil 1 [], .fz .isnil 2 [], .fz .isnil 1 []] [(6, 1), (7, 2), (8, 1)] [(0, 1, (.t 11)), (1, 1, (.t 12)), (2, 1, (.t 14)), (3, 1, (.t 16)), (4, 1, (.t 18))]),
  ox (some 20) none .L false (.box (.t 19)),
  o1 6 (.mov (.t 20))]
def r156_3 : List MOper := q156_3
def r156_4 : List MOper := [o1 21 (.mov (.t 6)),
  o1 22 (.mkfn 182 [(.t 21)] []),
  o1 7 (.mov (.t 22))]
def r156_5 : List MOper := [o1 23 (.mov (.t 0)),
  o1 24 (.len (.t 23)),
  o1 25 (.mov (.i 0))]
def r156_6 : List MOper := [o1 26 (.bin .lss (.t 25) (.t 24))]
def r156_7 : List MOper := [o1 27 (.mov (.t 25)),
  o1 8 (.mov (.t 27))]
def r156_8 : List MOper := [o1 28 (.mov (.t 1)),
  o1 29 (.mov (.t 8)),
  o1 30 (.ixs 1 (.t 28) (.t 29)),
  o1 31 (.ld false 1 (.t 30)),
  o1 32 (.not (.t 31)),
  o1 33 (.mov (.t 32)),
  o2 34 33 false (.mov (.t 6)),
  o2 35 33 false (.nilck (.t 34)),
  o2 36 33 false (.fld 2 (.t 35)),
  o2 37 33 false (.ld false 1 (.t 36)),
  o2 38 33 false (.mov (.t 8)),
  o2 39 33 false (.ixs 1 (.t 37) (.t 38)),
  o2 40 33 false (.ld false 1 (.t 39)),
  o2 41 33 false (.bin .gtr (.t 40) (.i 0)),
  o1 42 (.pick (.t 33) (.c (.bool true)) (.t 41))]
def r156_9 : List MOper := [o1 43 (.mov (.t 6)),
  o1 44 (.mov (.t 8)),
  o1 45 (.call 183 [(.t 43), (.t 44)])]
def r156_10 : List MOper := [o1 46 (.mov (.t 6)),
  o1 47 (.nilck (.t 46)),
  o1 48 (.fld 7 (.t 47)),
  o1 49 (.ld false 1 (.t 48)),
  o1 50 (.len (.t 49)),
  o1 51 (.bin .gtr (.t 50) (.i 0))]
def r156_11 : List MOper := [o1 52 (.mov (.t 7)),
  o1 53 (.callv (.t 52) [])]
def b156_2 : MCode := .seq (.seq (.reg false r156_10 [1, 6, 7, 24, 25, 51])
 (.cond 51 (.skip) (.exit 2)))
 (.block 3 (.reg false r156_11 [1, 6, 7, 24, 25]))
def r156_12 : List MOper := [o1 54 (.bin .add (.t 25) (.i 1)),
  o1 25 (.mov (.t 54))]
def b156_1 : MCode := .seq (.reg false r156_6 [1, 6, 7, 24, 25, 26])
 (.seq (.cond 26 (.skip) (.exit 0))
 (.seq (.block 1 (.seq (.reg false r156_7 [1, 6, 7, 8, 24, 25])
 (.seq (.seq (.reg false r156_8 [1, 6, 7, 8, 24, 25, 42])
 (.cond 42 (.exit 1) (.skip)))
 (.seq (.reg false r156_9 [1, 6, 7, 24, 25])
 (.block 2 (.loop [1, 6, 7, 24, 25] b156_2))))))
 (.reg false r156_12 [1, 6, 7, 24, 25])))
def r156_13 : List MOper := [o1 55 (.mov (.t 6)),
  o1 56 (.nilck (.t 55)),
  o1 57 (.fld 8 (.t 56)),
  o1 58 (.ld false 1 (.t 57)),
  o1 4 (.mov (.t 58))]
def c156 : MCode := .seq (.reg false r156_1 [0, 1])
 (.seq (.reg false r156_2 [0, 1, 5])
 (.seq (.reg true r156_3 [0, 1, 6])
 (.seq (.reg false r156_4 [0, 1, 6, 7])
 (.seq (.seq (.reg false r156_5 [1, 6, 7, 24, 25])
 (.block 0 (.loop [1, 6, 7, 24, 25] b156_1)))
 (.seq (.reg false r156_13 [4])
 (.ret))))))
def m156 : MFunc := ⟨3, [.tmp 4], c156⟩
def r157_1 : List MOper := [o1 4 (.mov (.c (.fz .isnil 1 [])))]
def r157_2 : List MOper := [o1 8 (.mov (.t 0)),
  o1 9 (.len (.t 8)),
  o1 10 (.mksl 1 (.bool false) (.t 9)),
  o1 5 (.mov (.t 10))]
def r157_3 : List MOper := [o1 11 (.mov (.t 0)),
  o1 12 (.len (.t 11)),
  o1 13 (.mov (.i 0))]
def r157_4 : List MOper := [o1 14 (.bin .lss (.t 13) (.t 12))]
def r157_5 : List MOper := [o1 15 (.mov (.t 13)),
  o1 16 (.ixs 1 (.t 11) (.t 13)),
  o1 17 (.ld false 1 (.t 16)),
  o1 6 (.mov (.t 15)),
  o1 7 (.mov (.t 17))]
def r157_6 : List MOper := [o1 18 (.mov (.t 5)),
  o1 19 (.mov (.t 6)),
  o1 20 (.mov (.t 7)),
  o1 21 (.mov (.t 20)),
  o2 22 21 true (.mov (.t 1)),
  o2 23 21 true (.mov (.t 6)),
  o2 24 21 true (.call 160 [(.t 22), (.t 23)]),
  o2 25 21 true (.not (.t 24)),
  o1 26 (.pick (.t 21) (.t 25) (.c (.bool false))),
  o1 27 (.ixs 1 (.t 18) (.t 19)),
  n1 (.st 1 (.t 27) (.t 26))]
def r157_7 : List MOper := [o1 28 (.bin .add (.t 13) (.i 1)),
  o1 13 (.mov (.t 28))]
def b157_1 : MCode := .seq (.reg false r157_4 [1, 5, 11, 12, 13, 14])
 (.seq (.cond 14 (.skip) (.exit 0))
 (.seq (.block 1 (.seq (.reg false r157_5 [1, 5, 6, 7, 11, 12, 13])
 (.reg false r157_6 [1, 5, 11, 12, 13])))
 (.reg false r157_7 [1, 5, 11, 12, 13])))
def r157_8 : List MOper := [o1 29 (.mov (.t 5)),
  o1 4 (.mov (.t 29))]
def c157 : MCode := .seq (.reg false r157_1 [0, 1])
 (.seq (.reg false r157_2 [0, 1, 5])
 (.seq (.seq (.reg false r157_3 [1, 5, 11, 12, 13])
 (.block 0 (.loop [1, 5, 11, 12, 13] b157_1)))
 (.seq (.reg false r157_8 [4])
 (.ret))))
def m157 : MFunc := ⟨3, [.tmp 4], c157⟩
def r158_1 : List MOper := [o1 4 (.mov (.c (.bool false)))]
def r158_2 : List MOper := [o1 10 (.mov (.t 1)),
  o1 11 (.len (.t 10)),
  o1 12 (.mov (.i 0))]
def r158_3 : List MOper := [o1 13 (.bin .lss (.t 12) (.t 11))]
def r158_4 : List MOper := [o1 14 (.ixs 1 (.t 10) (.t 12)),
  o1 15 (.ld false 1 (.t 14)),
  o1 6 (.mov (.t 15))]
def r158_5 : List MOper := [o1 7 (.mov (.c (.bool false)))]
def r158_6 : List MOper := [o1 16 (.mov (.t 0)),
  o1 17 (.len (.t 16)),
  o1 18 (.mov (.i 0))]
def r158_7 : List MOper := [o1 19 (.bin .lss (.t 18) (.t 17))]
def r158_8 : List MOper := [o1 20 (.ixs 1 (.t 16) (.t 18)),
  o1 21 (.ld false 1 (.t 20)),
  o1 9 (.mov (.t 21))]
def r158_9 : List MOper := [o1 22 (.mov (.t 7)),
  o1 23 (.mov (.t 22)),
  o2 24 23 false (.mov (.t 6)),
  o2 25 23 false (.mov (.t 9)),
  o2 26 23 false (.call 160 [(.t 24), (.t 25)]),
  o1 27 (.pick (.t 23) (.c (.bool true)) (.t 26)),
  o1 7 (.mov (.t 27))]
def r158_10 : List MOper := [o1 28 (.bin .add (.t 18) (.i 1)),
  o1 18 (.mov (.t 28))]
def b158_2 : MCode := .seq (.reg false r158_7 [0, 6, 7, 10, 11, 12, 16, 17, 18, 19])
 (.seq (.cond 19 (.skip) (.exit 2))
 (.seq (.block 3 (.seq (.reg false r158_8 [0, 6, 7, 9, 10, 11, 12, 16, 17, 18])
 (.reg false r158_9 [0, 6, 7, 10, 11, 12, 16, 17, 18])))
 (.reg false r158_10 [0, 6, 7, 10, 11, 12, 16, 17, 18])))
def r158_11 : List MOper := [o1 29 (.mov (.t 7)),
  o1 30 (.not (.t 29))]
def r158_12 : List MOper := [o1 4 (.mov (.c (.bool false)))]
def r158_13 : List MOper := [o1 31 (.bin .add (.t 12) (.i 1)),
  o1 12 (.mov (.t 31))]
def b158_1 : MCode := .seq (.reg false r158_3 [0, 10, 11, 12, 13])
 (.seq (.cond 13 (.skip) (.exit 0))
 (.seq (.block 1 (.seq (.reg false r158_4 [0, 6, 10, 11, 12])
 (.seq (.reg false r158_5 [0, 6, 7, 10, 11, 12])
 (.seq (.seq (.reg false r158_6 [0, 6, 7, 10, 11, 12, 16, 17, 18])
 (.block 2 (.loop [0, 6, 7, 10, 11, 12, 16, 17, 18] b158_2)))
 (.seq (.reg false r158_11 [0, 10, 11, 12, 30])
 (.cond 30 (.seq (.reg false r158_12 [4])
 (.ret)) (.skip)))))))
 (.reg false r158_13 [0, 10, 11, 12])))
def r158_14 : List MOper := [o1 4 (.mov (.c (.bool true)))]
def c158 : MCode := .seq (.reg false r158_1 [0, 1])
 (.seq (.seq (.reg false r158_2 [0, 10, 11, 12])
 (.block 0 (.loop [0, 10, 11, 12] b158_1)))
 (.seq (.reg false r158_14 [4])
 (.ret)))
def m158 : MFunc := ⟨3, [.tmp 4], c158⟩
def r159_1 : List MOper := [o1 4 (.ld false 1 (.t 1)),
  o1 5 (.mov (.t 0)),
  o1 6 (.ixs 1 (.t 4) (.t 5)),
  o1 7 (.ld false 1 (.t 6)),
  o1 8 (.not (.t 7))]
def r159_2 : List MOper := [o1 9 (.ld false 1 (.t 1)),
  o1 10 (.mov (.t 0)),
  o1 11 (.ixs 1 (.t 9) (.t 10)),
  n1 (.st 1 (.t 11) (.c (.bool true)))]
def r159_3 : List MOper := [o1 12 (.ld false 1 (.t 2)),
  o1 13 (.mov (.t 0)),
  o1 14 (.bsl false 1 [(.t 13)]),
  o1 15 (.app 1 (.t 12) (.t 14)),
  n1 (.st 1 (.t 2) (.t 15))]
def c159 : MCode := .seq (.reg false r159_1 [0, 1, 2, 8])
 (.cond 8 (.seq (.reg false r159_2 [0, 2])
 (.reg false r159_3 [])) (.skip))
def m159 : MFunc := ⟨0, [], c159⟩
def r160_1 : List MOper := [o1 4 (.mov (.c (.bool false)))]
def r160_2 : List MOper := [o1 5 (.mov (.t 1)),
  o1 6 (.mov (.t 0)),
  o1 7 (.len (.t 6)),
  o1 8 (.bin .lss (.t 5) (.t 7)),
  o1 9 (.mov (.t 8)),
  o2 10 9 true (.mov (.t 0)),
  o2 11 9 true (.mov (.t 1)),
  o2 12 9 true (.ixs 1 (.t 10) (.t 11)),
  o2 13 9 true (.ld false 1 (.t 12)),
  o1 14 (.pick (.t 9) (.t 13) (.c (.bool false))),
  o1 4 (.mov (.t 14))]
def c160 : MCode := .seq (.reg false r160_1 [0, 1])
 (.seq (.reg false r160_2 [4])
 (.ret))
def m160 : MFunc := ⟨3, [.tmp 4], c160⟩
def r161_1 : List MOper := [o1 4 (.mov (.i 0))]
def r161_2 : List MOper := [o1 9 (.mov (.t 1)),
  o1 10 (.nilck (.t 9)),
  o1 11 (.fld 0 (.t 10)),
  o1 12 (.ld false 1 (.t 11)),
  o1 13 (.len (.t 12)),
  o1 14 (.mov (.i 0))]
def r161_3 : List MOper := [o1 15 (.bin .lss (.t 14) (.t 13))]
def r161_4 : List MOper := [o1 16 (.mov (.t 14)),
  o1 17 (.ixs 1 (.t 12) (.t 14)),
  o1 18 (.ld false 1 (.t 17)),
  o1 5 (.mov (.t 16)),
  o1 6 (.mov (.t 18))]
def r161_5 : List MOper := [o1 19 (.mov (.t 6))]
def r161_6 : List MOper := [o1 20 (.mov (.t 4)),
  o1 21 (.mov (.t 0)),
  o1 22 (.nilck (.t 21)),
  o1 23 (.fld 2 (.t 22)),
  o1 24 (.ld false 1 (.t 23)),
  o1 25 (.mov (.t 5)),
  o1 26 (.ixs 1 (.t 24) (.t 25)),
  o1 27 (.ld false 1 (.t 26)),
  o1 28 (.mx [(.t 20), (.t 27)]),
  o1 4 (.mov (.t 28))]
def r161_7 : List MOper := [o1 29 (.bin .add (.t 14) (.i 1)),
  o1 14 (.mov (.t 29))]
def b161_1 : MCode := .seq (.reg false r161_3 [0, 1, 4, 12, 13, 14, 15])
 (.seq (.cond 15 (.skip) (.exit 0))
 (.seq (.block 1 (.seq (.reg false r161_4 [0, 1, 4, 5, 6, 12, 13, 14])
 (.seq (.reg false r161_5 [0, 1, 4, 5, 12, 13, 14, 19])
 (.cond 19 (.reg false r161_6 [0, 1, 4, 12, 13, 14]) (.skip)))))
 (.reg false r161_7 [0, 1, 4, 12, 13, 14])))
def r161_8 : List MOper := [o1 30 (.mov (.t 1)),
  o1 31 (.nilck (.t 30)),
  o1 32 (.fld 2 (.t 31)),
  n1 (.st 1 (.t 32) (.i 1))]
def r161_9 : List MOper := [o1 33 (.mov (.t 4)),
  o1 34 (.bin .rem (.t 33) (.i 2)),
  o1 35 (.bin .eql (.t 34) (.i 1))]
def r161_10 : List MOper := [o1 36 (.mov (.t 1)),
  o1 37 (.nilck (.t 36)),
  o1 38 (.fld 2 (.t 37)),
  n1 (.st 1 (.t 38) (.i 0))]
def r161_11 : List MOper := [o1 39 (.mov (.t 1)),
  o1 40 (.mov (.t 1)),
  o1 41 (.nilck (.t 40)),
  o1 42 (.fld 0 (.t 41)),
  o1 43 (.ld false 1 (.t 42)),
  o1 44 (.len (.t 43)),
  o1 45 (.mksl 1 (.bool false) (.t 44)),
  o1 46 (.nilck (.t 39)),
  o1 47 (.fld 3 (.t 46)),
  n1 (.st 1 (.t 47) (.t 45))]
def r161_12 : List MOper := [o1 48 (.mov (.t 1)),
  o1 49 (.nilck (.t 48)),
  o1 50 (.fld 0 (.t 49)),
  o1 51 (.ld false 1 (.t 50)),
  o1 52 (.len (.t 51)),
  o1 53 (.mov (.i 0))]
def r161_13 : List MOper := [o1 54 (.bin .lss (.t 53) (.t 52))]
def r161_14 : List MOper := [o1 55 (.mov (.t 53)),
  o1 56 (.ixs 1 (.t 51) (.t 53)),
  o1 57 (.ld false 1 (.t 56)),
  o1 7 (.mov (.t 55)),
  o1 8 (.mov (.t 57))]
def q161_15 : List MOper := [o1 58 (.mov (.t 1)),
  o1 59 (.nilck (.t 58)),
  o1 60 (.fld 3 (.t 59)),
  ox (some 61) none .R false (.ld false 1 (.t 60)),
  o1 62 (.mov (.t 7)),
  o1 63 (.mov (.t 8)),
  o1 64 (.mov (.t 63)),
  o2 65 64 true (.mov (.t 0)),
  o2 66 64 true (.nilck (.t 65)),
  o2 67 64 true (.fld 2 (.t 66)),
  ox (some 68) (some (64, true)) .R false (.ld false 1 (.t 67)),
  o2 69 64 true (.mov (.t 7)),
  o2 70 64 true (.ixs 1 (.t 68) (.t 69)),
  ox (some 71) (some (64, true)) .R false (.ld false 1 (.t 70)),
  o2 72 64 true (.mov (.t 4)),
  o2 73 64 true (.bin .eql (.t 71) (.t 72)),
  o1 74 (.pick (.t 64) (.t 73) (.c (.bool false))),
  o1 75 (.ixs 1 (.t 61) (.t 62)),
  ox none none .L false (.st 1 (.t 75) (.t 74))]
def r161_15 : List MOper := q161_15
def r161_16 : List MOper := [o1 76 (.bin .add (.t 53) (.i 1)),
  o1 53 (.mov (.t 76))]
def b161_2 : MCode := .seq (.reg false r161_13 [0, 1, 4, 51, 52, 53, 54])
 (.seq (.cond 54 (.skip) (.exit 2))
 (.seq (.block 3 (.seq (.reg false r161_14 [0, 1, 4, 7, 8, 51, 52, 53])
 (.reg true r161_15 [0, 1, 4, 51, 52, 53])))
 (.reg false r161_16 [0, 1, 4, 51, 52, 53])))
def q161_17 : List MOper := [o1 77 (.mov (.t 1)),
  o1 78 (.mov (.t 0)),
  o1 79 (.mov (.t 1)),
  o1 80 (.nilck (.t 79)),
  o1 81 (.fld 0 (.t 80)),
  ox (some 82) none .R true (.ld false 1 (.t 81)),
  o1 83 (.mov (.t 0)),
  o1 84 (.mov (.t 1)),
  o1 85 (.nilck (.t 84)),
  o1 86 (.fld 2 (.t 85)),
  ox (some 87) none .R false (.ld false 1 (.t 86)),
  o1 88 (.mov (.t 1)),
  o1 89 (.nilck (.t 88)),
  o1 90 (.fld 0 (.t 89)),
  ox (some 91) none .R false (.ld false 1 (.t 90)),
  o1 92 (.mov (.t 1)),
  o1 93 (.nilck (.t 92)),
  o1 94 (.fld 3 (.t 93)),
  ox (some 95) none .R false (.ld false 1 (.t 94)),
  ox (some 96) none .L false (.call 184 [(.t 83), (.t 87), (.t 91), (.t 95)]),
  ox (some 97) none .R false (.call 132 [(.t 78), (.t 82), (.t 96)]),
  o1 98 (.nilck (.t 77)),
  o1 99 (.fld 4 (.t 98)),
  ox none none .L false (.st 1 (.t 99) (.t 97))]
def r161_17 : List MOper := q161_17
def r161_18 : List MOper := [o1 100 (.mov (.t 1)),
  o1 101 (.nilck (.t 100)),
  o1 102 (.fld 1 (.t 101)),
  n1 (.st 1 (.t 102) (.i 1))]
def r161_19 : List MOper := [o1 103 (.mov (.t 0)),
  o1 104 (.mov (.t 1)),
  o1 105 (.nilck (.t 104)),
  o1 106 (.fld 4 (.t 105)),
  o1 107 (.ld false 1 (.t 106)),
  o1 108 (.call 133 [(.t 103), (.t 107)])]
def c161 : MCode := .seq (.reg false r161_1 [0, 1, 4])
 (.seq (.seq (.reg false r161_2 [0, 1, 4, 12, 13, 14])
 (.block 0 (.loop [0, 1, 4, 12, 13, 14] b161_1)))
 (.seq (.reg false r161_8 [0, 1, 4])
 (.seq (.seq (.reg false r161_9 [0, 1, 4, 35])
 (.cond 35 (.reg false r161_10 [0, 1, 4]) (.skip)))
 (.seq (.reg false r161_11 [0, 1, 4])
 (.seq (.seq (.reg false r161_12 [0, 1, 4, 51, 52, 53])
 (.block 2 (.loop [0, 1, 4, 51, 52, 53] b161_2)))
 (.seq (.reg true r161_17 [0, 1])
 (.seq (.reg false r161_18 [0, 1])
 (.reg false r161_19 []))))))))
def m161 : MFunc := ⟨0, [], c161⟩
def q162_1 : List MOper := [o1 6 (.mov (.t 0)),
  o1 7 (.mov (.t 1)),
  o1 8 (.nilck (.t 7)),
  o1 9 (.fld 2 (.t 8)),
  ox (some 10) none .R false (.ld false 1 (.t 9)),
  o1 11 (.bin .sub (.i 1) (.t 10)),
  o1 12 (.mov (.t 1)),
  o1 13 (.nilck (.t 12)),
  o1 14 (.fld 4 (.t 13)),
  ox (some 15) none .R false (.ld false 1 (.t 14)),
  ox (some 16) none .R false (.call 185 [(.t 6), (.t 11), (.t 15)]),
  o1 4 (.mov (.t 16))]
def r162_1 : List MOper := q162_1
def r162_2 : List MOper := [o1 17 (.mov (.t 0)),
  o1 18 (.mov (.t 4)),
  o1 19 (.call 165 [(.t 17), (.t 18)]),
  o1 20 (.not (.t 19))]
def q162_3 : List MOper := [o1 21 (.mov (.t 0)),
  o1 22 (.mov (.t 1)),
  o1 23 (.nilck (.t 22)),
  o1 24 (.fld 2 (.t 23)),
  ox (some 25) none .R false (.ld false 1 (.t 24)),
  o1 26 (.mov (.t 1)),
  o1 27 (.nilck (.t 26)),
  o1 28 (.fld 0 (.t 27)),
  ox (some 29) none .R false (.ld false 1 (.t 28)),
  o1 30 (.mov (.t 1)),
  o1 31 (.nilck (.t 30)),
  o1 32 (.fld 3 (.t 31)),
  ox (some 33) none .R false (.ld false 1 (.t 32)),
  ox (some 34) none .L false (.call 186 [(.t 21), (.t 25), (.t 29), (.t 33)])]
def r162_3 : List MOper := q162_3
def q162_4 : List MOper := [o1 35 (.mov (.t 0)),
  o1 36 (.mov (.t 1)),
  o1 37 (.nilck (.t 36)),
  o1 38 (.fld 2 (.t 37)),
  ox (some 39) none .R false (.ld false 1 (.t 38)),
  o1 40 (.mov (.t 1)),
  o1 41 (.nilck (.t 40)),
  o1 42 (.fld 0 (.t 41)),
  ox (some 43) none .R false (.ld false 1 (.t 42)),
  ox (some 44) none .L false (.call 131 [(.t 35), (.t 39), (.t 43)])]
def r162_4 : List MOper := q162_4
def r162_5 : List MOper := [o1 45 (.mov (.t 0)),
  o1 46 (.call 164 [(.t 45)])]
def q162_6 : List MOper := [o1 47 (.mov (.t 0)),
  o1 48 (.mov (.t 1)),
  o1 49 (.nilck (.t 48)),
  o1 50 (.fld 2 (.t 49)),
  ox (some 51) none .R false (.ld false 1 (.t 50)),
  o1 52 (.bin .sub (.i 1) (.t 51)),
  o1 53 (.mov (.t 1)),
  o1 54 (.nilck (.t 53)),
  o1 55 (.fld 0 (.t 54)),
  ox (some 56) none .R false (.ld false 1 (.t 55)),
  o1 57 (.mov (.t 4)),
  ox (some 58) none .L false (.call 184 [(.t 47), (.t 52), (.t 56), (.t 57)]),
  o1 5 (.mov (.t 58))]
def r162_6 : List MOper := q162_6
def r162_7 : List MOper := [o1 59 (.mov (.t 0)),
  o1 60 (.mov (.t 1)),
  o1 61 (.nilck (.t 60)),
  o1 62 (.fld 2 (.t 61)),
  o1 63 (.ld false 1 (.t 62)),
  o1 64 (.bin .sub (.i 1) (.t 63)),
  o1 65 (.mov (.t 5)),
  o1 66 (.call 131 [(.t 59), (.t 64), (.t 65)])]
def r162_8 : List MOper := [o1 67 (.mov (.t 1)),
  o1 68 (.nilck (.t 67)),
  o1 69 (.fld 1 (.t 68)),
  n1 (.st 1 (.t 69) (.i 2))]
def r162_9 : List MOper := [o1 70 (.mov (.t 0)),
  o1 71 (.mov (.t 0)),
  o1 72 (.mov (.t 1)),
  o1 73 (.nilck (.t 72)),
  o1 74 (.fld 0 (.t 73)),
  o1 75 (.ld false 1 (.t 74)),
  o1 76 (.mov (.t 5)),
  o1 77 (.call 132 [(.t 71), (.t 75), (.t 76)]),
  o1 78 (.call 133 [(.t 70), (.t 77)])]
def c162 : MCode := .seq (.reg true r162_1 [0, 1, 4])
 (.seq (.seq (.reg false r162_2 [0, 1, 4, 20])
 (.cond 20 (.seq (.reg true r162_3 [0, 1])
 (.seq (.reg true r162_4 [0])
 (.seq (.reg false r162_5 [])
 (.ret)))) (.skip)))
 (.seq (.reg true r162_6 [0, 1, 5])
 (.seq (.reg false r162_7 [0, 1, 5])
 (.seq (.reg false r162_8 [0, 1, 5])
 (.reg false r162_9 [])))))
def m162 : MFunc := ⟨0, [], c162⟩
def r163_1 : List MOper := [o1 3 (.ld false 1 (.t 1)),
  o1 4 (.call 164 [(.t 3)])]
def c163 : MCode := .reg false r163_1 []
def m163 : MFunc := ⟨0, [], c163⟩
def q164_1 : List MOper := [o1 2 (.mov (.t 0)),
  o1 3 (.mov (.t 0)),
  o1 4 (.nilck (.t 3)),
  o1 5 (.fld 5 (.t 4)),
  ox (some 6) none .R false (.ld false 1 (.t 5)),
  o1 7 (.mov (.t 0)),
  o1 8 (.nilck (.t 7)),
  o1 9 (.fld 5 (.t 8)),
  ox (some 10) none .R false (.ld false 1 (.t 9)),
  o1 11 (.len (.t 10)),
  o1 12 (.bin .sub (.t 11) (.i 1)),
  o1 13 (.slc 1 (.t 6) none (some (.t 12))),
  o1 14 (.nilck (.t 2)),
  o1 15 (.fld 5 (.t 14)),
  ox none none .L false (.st 1 (.t 15) (.t 13))]
def r164_1 : List MOper := q164_1
def c164 : MCode := .reg true r164_1 []
def m164 : MFunc := ⟨0, [], c164⟩
def r165_1 : List MOper := [o1 4 (.mov (.c (.bool false)))]
def r165_2 : List MOper := [o1 5 (.mov (.t 0)),
  o1 6 (.nilck (.t 5)),
  o1 7 (.fld 0 (.t 6)),
  o1 8 (.ld true 2 (.t 7)),
  o1 9 (.mov (.t 1)),
  o1 10 (.call 187 [(.t 8), (.t 9)]),
  o1 11 (.bin .gtr (.t 10) (.i 0)),
  o1 4 (.mov (.t 11))]
def c165 : MCode := .seq (.reg false r165_1 [0, 1])
 (.seq (.reg false r165_2 [4])
 (.ret))
def m165 : MFunc := ⟨1, [.tmp 4], c165⟩
def r166_1 : List MOper := [o1 3 (.box (.t 0)),
  o1 5 (.box (.t 2)),
  o1 6 (.alloc [.int .i64 0, .int .i64 0, .int .i64 0, .bool false] [])]
def r166_2 : List MOper := [o1 9 (.fld 3 (.t 3)),
  o1 10 (.ld false 1 (.t 9))]
def r166_3 : List MOper := [o1 11 (.ld true 4 (.t 3)),
  n1 (.st 4 (.t 6) (.t 11))]
def r166_4 : List MOper := [o1 12 (.mov (.i 0))]
def r166_5 : List MOper := [o1 13 (.bin .lss (.t 12) (.i 3))]
def r166_6 : List MOper := [o1 14 (.mov (.t 12)),
  o1 7 (.mov (.t 14))]
def r166_7 : List MOper := [o1 15 (.mov (.t 7)),
  o1 16 (.bin .mul (.i 2) (.t 15)),
  o1 17 (.bin .add (.t 16) (.i 1)),
  o1 18 (.mov (.t 1)),
  o1 19 (.bin .lss (.t 17) (.t 18))]
def r166_8 : List MOper := [o1 20 (.mov (.t 7)),
  o1 21 (.fld 0 (.t 3)),
  o1 22 (.ixa 3 1 (.t 21) (.t 20)),
  n1 (.st 1 (.t 22) (.i 0))]
def r166_9 : List MOper := [o1 23 (.bin .add (.t 12) (.i 1)),
  o1 12 (.mov (.t 23))]
def b166_1 : MCode := .seq (.reg false r166_5 [1, 3, 5, 6, 12, 13])
 (.seq (.cond 13 (.skip) (.exit 0))
 (.seq (.block 1 (.seq (.reg false r166_6 [1, 3, 5, 6, 7, 12])
 (.seq (.reg false r166_7 [1, 3, 5, 6, 7, 12, 19])
 (.cond 19 (.reg false r166_8 [1, 3, 5, 6, 12]) (.skip)))))
 (.reg false r166_9 [1, 3, 5, 6, 12])))
def r166_10 : List MOper := [o1 24 (.mov (.t 1)),
  o1 25 (.bin .rem (.t 24) (.i 2)),
  o1 26 (.bin .eql (.t 25) (.i 0))]
def r166_11 : List MOper := [o1 27 (.ld true 4 (.t 3)),
  n1 (.st 4 (.t 6) (.t 27))]
def r166_12 : List MOper := [o1 28 (.mov (.t 1)),
  o1 29 (.bin .quo (.t 28) (.i 2)),
  o1 8 (.mov (.t 29))]
def r166_13 : List MOper := [o1 30 (.mov (.t 8)),
  o1 31 (.bin .lss (.t 30) (.i 3))]
def q166_14 : List MOper := [o1 34 (.mov (.t 8)),
  o1 35 (.fld 0 (.t 3)),
  o1 36 (.ixa 3 1 (.t 35) (.t 34)),
  ox (some 37) none .R false (.ld false 1 (.t 36)),
  o1 38 (.mov (.t 8)),
  o1 39 (.ixa 3 1 (.t 5) (.t 38)),
  ox (some 40) none .R false (.ld false 1 (.t 39)),
  o1 41 (.bin .lss (.t 37) (.t 40))]
def r166_14 : List MOper := q166_14
def r166_15 : List MOper := [o1 42 (.mov (.t 8)),
  o1 43 (.fld 0 (.t 3)),
  o1 44 (.ixa 3 1 (.t 43) (.t 42)),
  o1 45 (.ld false 1 (.t 44)),
  o1 46 (.bin .add (.t 45) (.i 1)),
  o1 47 (.fld 0 (.t 3)),
  o1 48 (.ixa 3 1 (.t 47) (.t 42)),
  n1 (.st 1 (.t 48) (.t 46))]
def r166_16 : List MOper := [o1 49 (.ld true 4 (.t 3)),
  n1 (.st 4 (.t 6) (.t 49))]
def r166_17 : List MOper := [o1 50 (.mov (.t 8)),
  o1 51 (.fld 0 (.t 3)),
  o1 52 (.ixa 3 1 (.t 51) (.t 50)),
  n1 (.st 1 (.t 52) (.i 0))]
def r166_18 : List MOper := [o1 32 (.mov (.t 8)),
  o1 33 (.bin .add (.t 32) (.i 1)),
  o1 8 (.mov (.t 33))]
def b166_2 : MCode := .seq (.seq (.reg false r166_13 [3, 5, 6, 8, 31])
 (.cond 31 (.skip) (.exit 2)))
 (.seq (.block 3 (.seq (.seq (.reg true r166_14 [3, 5, 6, 8, 41])
 (.cond 41 (.seq (.reg false r166_15 [3, 6])
 (.seq (.reg false r166_16 [6])
 (.ret))) (.skip)))
 (.reg false r166_17 [3, 5, 6, 8])))
 (.reg false r166_18 [3, 5, 6, 8]))
def r166_19 : List MOper := [o1 53 (.build [.int .i64 0, .int .i64 0, .int .i64 0, .bool false] [] [(3, 1, (.c (.bool true)))]),
  n1 (.st 4 (.t 6) (.t 53))]
def c166 : MCode := .seq (.reg false r166_1 [1, 3, 5, 6])
 (.seq (.seq (.reg false r166_2 [1, 3, 5, 6, 10])
 (.cond 10 (.seq (.reg false r166_3 [6])
 (.ret)) (.skip)))
 (.seq (.seq (.reg false r166_4 [1, 3, 5, 6, 12])
 (.block 0 (.loop [1, 3, 5, 6, 12] b166_1)))
 (.seq (.seq (.reg false r166_10 [1, 3, 5, 6, 26])
 (.cond 26 (.seq (.reg false r166_11 [6])
 (.ret)) (.skip)))
 (.seq (.seq (.reg false r166_12 [3, 5, 6, 8])
 (.block 2 (.loop [3, 5, 6, 8] b166_2)))
 (.seq (.reg false r166_19 [6])
 (.ret))))))
def m166 : MFunc := ⟨3, [.cell 6 true 4], c166⟩
def r167_1 : List MOper := [o1 2 (.box (.t 0)),
  o1 3 (.box (.t 1)),
  o1 4 (.mov (.c (.bool false)))]
def r167_2 : List MOper := [o1 6 (.fld 3 (.t 2)),
  o1 7 (.ld false 1 (.t 6)),
  o1 8 (.mov (.t 7)),
  o2 9 8 false (.fld 3 (.t 3)),
  o2 10 8 false (.ld false 1 (.t 9)),
  o1 11 (.pick (.t 8) (.c (.bool true)) (.t 10))]
def r167_3 : List MOper := [o1 12 (.fld 3 (.t 3)),
  o1 13 (.ld false 1 (.t 12)),
  o1 14 (.mov (.t 13)),
  o2 15 14 true (.fld 3 (.t 2)),
  o2 16 14 true (.ld false 1 (.t 15)),
  o2 17 14 true (.not (.t 16)),
  o1 18 (.pick (.t 14) (.t 17) (.c (.bool false))),
  o1 4 (.mov (.t 18))]
def r167_4 : List MOper := [o1 5 (.mov (.i 2))]
def r167_5 : List MOper := [o1 19 (.mov (.t 5)),
  o1 20 (.bin .geq (.t 19) (.i 0))]
def q167_6 : List MOper := [o1 23 (.mov (.t 5)),
  o1 24 (.fld 0 (.t 2)),
  o1 25 (.ixa 3 1 (.t 24) (.t 23)),
  ox (some 26) none .R false (.ld false 1 (.t 25)),
  o1 27 (.mov (.t 5)),
  o1 28 (.fld 0 (.t 3)),
  o1 29 (.ixa 3 1 (.t 28) (.t 27)),
  ox (some 30) none .R false (.ld false 1 (.t 29)),
  o1 31 (.bin .neq (.t 26) (.t 30))]
def r167_6 : List MOper := q167_6
def q167_7 : List MOper := [o1 32 (.mov (.t 5)),
  o1 33 (.fld 0 (.t 2)),
  o1 34 (.ixa 3 1 (.t 33) (.t 32)),
  ox (some 35) none .R false (.ld false 1 (.t 34)),
  o1 36 (.mov (.t 5)),
  o1 37 (.fld 0 (.t 3)),
  o1 38 (.ixa 3 1 (.t 37) (.t 36)),
  ox (some 39) none .R false (.ld false 1 (.t 38)),
  o1 40 (.bin .lss (.t 35) (.t 39)),
  o1 4 (.mov (.t 40))]
def r167_7 : List MOper := q167_7
def r167_8 : List MOper := [o1 21 (.mov (.t 5)),
  o1 22 (.bin .sub (.t 21) (.i 1)),
  o1 5 (.mov (.t 22))]
def b167_1 : MCode := .seq (.seq (.reg false r167_5 [2, 3, 5, 20])
 (.cond 20 (.skip) (.exit 0)))
 (.seq (.block 1 (.seq (.reg true r167_6 [2, 3, 5, 31])
 (.cond 31 (.seq (.reg true r167_7 [4])
 (.ret)) (.skip))))
 (.reg false r167_8 [2, 3, 5]))
def r167_9 : List MOper := [o1 4 (.mov (.c (.bool false)))]
def c167 : MCode := .seq (.reg false r167_1 [2, 3])
 (.seq (.seq (.reg false r167_2 [2, 3, 11])
 (.cond 11 (.seq (.reg false r167_3 [4])
 (.ret)) (.skip)))
 (.seq (.seq (.reg false r167_4 [2, 3, 5])
 (.block 0 (.loop [2, 3, 5] b167_1)))
 (.seq (.reg false r167_9 [4])
 (.ret))))
def m167 : MFunc := ⟨3, [.tmp 4], c167⟩
def r168_1 : List MOper := [o1 6 (.mov (.c (.bool false)))]
def r168_2 : List MOper := [o1 7 (.mov (.t 0)),
  o1 8 (.len (.t 7)),
  o1 9 (.bin .eql (.t 8) (.i 0)),
  o1 10 (.mov (.t 9)),
  o2 11 10 false (.mov (.t 2)),
  o2 12 10 false (.mov (.t 0)),
  o2 13 10 false (.mov (.t 1)),
  o2 14 10 false (.ixs 1 (.t 12) (.t 13)),
  o2 15 10 false (.ld false 1 (.t 14)),
  o2 16 10 false (.len (.t 15)),
  o2 17 10 false (.bin .lss (.t 11) (.t 16)),
  o2 18 10 false (.mov (.t 17)),
  o2 19 18 true (.mov (.t 0)),
  o2 20 18 true (.mov (.t 1)),
  o2 21 18 true (.ixs 1 (.t 19) (.t 20)),
  o2 22 18 true (.ld false 1 (.t 21)),
  o2 23 18 true (.mov (.t 2)),
  o2 24 18 true (.ixs 1 (.t 22) (.t 23)),
  o2 25 18 true (.ld false 1 (.t 24)),
  o2 26 10 false (.pick (.t 18) (.t 25) (.c (.bool false))),
  o1 27 (.pick (.t 10) (.c (.bool true)) (.t 26)),
  o1 6 (.mov (.t 27))]
def c168 : MCode := .seq (.reg false r168_1 [0, 1, 2])
 (.seq (.reg false r168_2 [6])
 (.ret))
def m168 : MFunc := ⟨3, [.tmp 6], c168⟩
def r169_1 : List MOper := [o1 6 (.mov (.c (.bool false)))]
def r169_2 : List MOper := [o1 7 (.mov (.t 0)),
  o1 8 (.len (.t 7)),
  o1 9 (.bin .eql (.t 8) (.i 0)),
  o1 10 (.mov (.t 9)),
  o2 11 10 false (.mov (.t 2)),
  o2 12 10 false (.mov (.t 0)),
  o2 13 10 false (.mov (.t 1)),
  o2 14 10 false (.ixs 1 (.t 12) (.t 13)),
  o2 15 10 false (.ld false 1 (.t 14)),
  o2 16 10 false (.len (.t 15)),
  o2 17 10 false (.bin .lss (.t 11) (.t 16)),
  o2 18 10 false (.mov (.t 17)),
  o2 19 18 true (.mov (.t 0)),
  o2 20 18 true (.mov (.t 1)),
  o2 21 18 true (.ixs 1 (.t 19) (.t 20)),
  o2 22 18 true (.ld false 1 (.t 21)),
  o2 23 18 true (.mov (.t 2)),
  o2 24 18 true (.ixs 1 (.t 22) (.t 23)),
  o2 25 18 true (.ld false 1 (.t 24)),
  o2 26 10 false (.pick (.t 18) (.t 25) (.c (.bool false))),
  o1 27 (.pick (.t 10) (.c (.bool true)) (.t 26)),
  o1 6 (.mov (.t 27))]
def c169 : MCode := .seq (.reg false r169_1 [0, 1, 2])
 (.seq (.reg false r169_2 [6])
 (.ret))
def m169 : MFunc := ⟨3, [.tmp 6], c169⟩
def r170_1 : List MOper := [o1 1 (.box (.t 0)),
  o1 2 (.mov (.c (.fz .isnil 1 [])))]
def r170_2 : List MOper := [o1 8 (.ld true 2 (.t 1)),
  o1 9 (.call 69 [(.t 8)]),
  o1 10 (.bin .neq (.t 9) (.i 0))]
def r170_3 : List MOper := [o1 2 (.mov (.c (.fz .isnil 1 [])))]
def r170_4 : List MOper := [o1 11 (.fld 0 (.t 1)),
  o1 12 (.ld false 1 (.t 11)),
  o1 13 (.len (.t 12)),
  o1 14 (.mkrows 1 (.t 13)),
  o1 3 (.mov (.t 14))]
def r170_5 : List MOper := [o1 15 (.fld 1 (.t 1)),
  o1 16 (.ld false 1 (.t 15)),
  o1 17 (.len (.t 16)),
  o1 18 (.mov (.i 0))]
def r170_6 : List MOper := [o1 19 (.bin .lss (.t 18) (.t 17))]
def r170_7 : List MOper := [o1 20 (.mov (.t 18)),
  o1 21 (.ixs 1 (.t 16) (.t 18)),
  o1 22 (.ld false 1 (.t 21)),
  o1 4 (.mov (.t 20)),
  o1 5 (.mov (.t 22))]
def r170_8 : List MOper := [o1 23 (.mov (.t 5)),
  o1 24 (.len (.t 23)),
  o1 25 (.mov (.i 0))]
def r170_9 : List MOper := [o1 26 (.bin .lss (.t 25) (.t 24))]
def r170_10 : List MOper := [o1 27 (.ixs 1 (.t 23) (.t 25)),
  o1 28 (.ld false 1 (.t 27)),
  o1 7 (.mov (.t 28))]
def r170_11 : List MOper := [o1 29 (.mov (.t 3)),
  o1 30 (.mov (.t 7)),
  o1 31 (.mov (.t 3)),
  o1 32 (.mov (.t 7)),
  o1 33 (.ixs 1 (.t 31) (.t 32)),
  o1 34 (.ld false 1 (.t 33)),
  o1 35 (.mov (.t 4)),
  o1 36 (.bsl false 1 [(.t 35)]),
  o1 37 (.app 1 (.t 34) (.t 36)),
  o1 38 (.ixs 1 (.t 29) (.t 30)),
  n1 (.st 1 (.t 38) (.t 37))]
def r170_12 : List MOper := [o1 39 (.bin .add (.t 25) (.i 1)),
  o1 25 (.mov (.t 39))]
def b170_2 : MCode := .seq (.reg false r170_9 [3, 4, 16, 17, 18, 23, 24, 25, 26])
 (.seq (.cond 26 (.skip) (.exit 2))
 (.seq (.block 3 (.seq (.reg false r170_10 [3, 4, 7, 16, 17, 18, 23, 24, 25])
 (.reg false r170_11 [3, 4, 16, 17, 18, 23, 24, 25])))
 (.reg false r170_12 [3, 4, 16, 17, 18, 23, 24, 25])))
def r170_13 : List MOper := [o1 40 (.bin .add (.t 18) (.i 1)),
  o1 18 (.mov (.t 40))]
def b170_1 : MCode := .seq (.reg false r170_6 [3, 16, 17, 18, 19])
 (.seq (.cond 19 (.skip) (.exit 0))
 (.seq (.block 1 (.seq (.reg false r170_7 [3, 4, 5, 16, 17, 18])
 (.seq (.reg false r170_8 [3, 4, 16, 17, 18, 23, 24, 25])
 (.block 2 (.loop [3, 4, 16, 17, 18, 23, 24, 25] b170_2)))))
 (.reg false r170_13 [3, 16, 17, 18])))
def r170_14 : List MOper := [o1 41 (.mov (.t 3)),
  o1 2 (.mov (.t 41))]
def c170 : MCode := .seq (.reg false r170_1 [1])
 (.seq (.seq (.reg false r170_2 [1, 10])
 (.cond 10 (.seq (.reg false r170_3 [2])
 (.ret)) (.skip)))
 (.seq (.reg false r170_4 [1, 3])
 (.seq (.seq (.reg false r170_5 [3, 16, 17, 18])
 (.block 0 (.loop [3, 16, 17, 18] b170_1)))
 (.seq (.reg false r170_14 [2])
 (.ret)))))
def m170 : MFunc := ⟨3, [.tmp 2], c170⟩
def r171_1 : List MOper := [o1 4 (.mov (.t 0)),
  o1 5 (.nilck (.t 4)),
  o1 6 (.fld 8 (.t 5)),
  o1 7 (.ld false 1 (.t 6)),
  o1 8 (.mov (.t 1)),
  o1 9 (.ixs 1 (.t 7) (.t 8)),
  o1 10 (.ld false 1 (.t 9)),
  o1 11 (.not (.t 10))]
def r171_2 : List MOper := [o1 12 (.mov (.t 0)),
  o1 13 (.nilck (.t 12)),
  o1 14 (.fld 8 (.t 13)),
  o1 15 (.ld false 1 (.t 14)),
  o1 16 (.mov (.t 1)),
  o1 17 (.ixs 1 (.t 15) (.t 16)),
  n1 (.st 1 (.t 17) (.c (.bool true)))]
def r171_3 : List MOper := [o1 18 (.mov (.t 0)),
  o1 19 (.nilck (.t 18)),
  o1 20 (.fld 7 (.t 19)),
  o1 21 (.mkif 153 (.t 20)),
  o1 22 (.mov (.t 1)),
  o1 23 (.mkif 3 (.t 22)),
  o1 24 (.call 188 [(.t 21), (.t 23)])]
def c171 : MCode := .seq (.reg false r171_1 [0, 1, 11])
 (.cond 11 (.seq (.reg false r171_2 [0, 1])
 (.reg false r171_3 [])) (.skip))
def m171 : MFunc := ⟨0, [], c171⟩
def r172_1 : List MOper := [o1 2 (.mov (.c (.unk)))]
def r172_2 : List MOper := [o1 4 (.mov (.t 0)),
  o1 5 (.inv [(153, 222, some (false, 1)), (166, 227, some (false, 1))] (.t 4) []),
  o1 6 (.bin .sub (.t 5) (.i 1)),
  o1 3 (.mov (.t 6))]
def r172_3 : List MOper := [o1 7 (.mov (.t 0)),
  o1 8 (.mov (.t 3)),
  o1 9 (.inv [(153, 224, some (false, 1)), (166, 229, some (false, 1))] (.t 7) [(.i 0), (.t 8)])]
def r172_4 : List MOper := [o1 10 (.mov (.t 0)),
  o1 11 (.mov (.t 3)),
  o1 12 (.call 189 [(.t 10), (.i 0), (.t 11)])]
def r172_5 : List MOper := [o1 13 (.mov (.t 0)),
  o1 14 (.inv [(153, 225, none), (166, 230, none)] (.t 13) []),
  o1 2 (.mov (.t 14))]
def c172 : MCode := .seq (.reg false r172_1 [0])
 (.seq (.reg false r172_2 [0, 3])
 (.seq (.reg false r172_3 [0, 3])
 (.seq (.reg false r172_4 [0])
 (.seq (.reg false r172_5 [2])
 (.ret)))))
def m172 : MFunc := ⟨0, [.tmp 2], c172⟩
def r173_1 : List MOper := [o1 4 (.alloc [.int .i64 0, .int .i64 0, .int .i64 0, .bool false] [])]
def r173_2 : List MOper := [o1 10 (.mov (.t 0)),
  o1 11 (.nilck (.t 10)),
  o1 12 (.fld 0 (.t 11)),
  o1 13 (.fld 1 (.t 12)),
  o1 14 (.ld false 1 (.t 13)),
  o1 15 (.mov (.t 1)),
  o1 16 (.ixs 1 (.t 14) (.t 15)),
  o1 17 (.ld false 1 (.t 16)),
  o1 18 (.len (.t 17)),
  o1 19 (.bin .eql (.t 18) (.i 0))]
def r173_3 : List MOper := [o1 20 (.mov (.t 0)),
  o1 21 (.nilck (.t 20)),
  o1 22 (.fld 0 (.t 21)),
  o1 23 (.fld 0 (.t 22)),
  o1 24 (.ld false 1 (.t 23)),
  o1 25 (.mov (.t 1)),
  o1 26 (.ixs 1 (.t 24) (.t 25)),
  o1 27 (.ld false 1 (.t 26)),
  o1 28 (.bin .eql (.t 27) (.i 1)),
  o1 29 (.build [.int .i64 0, .int .i64 0, .int .i64 0, .bool false] [] [(3, 1, (.t 28))]),
  n1 (.st 4 (.t 4) (.t 29))]
def r173_4 : List MOper := [o1 5 (.alloc [.int .i64 0, .int .i64 0, .int .i64 0, .bool false] [])]
def r173_5 : List MOper := [o1 30 (.mov (.t 0)),
  o1 31 (.nilck (.t 30)),
  o1 32 (.fld 0 (.t 31)),
  o1 33 (.fld 1 (.t 32)),
  o1 34 (.ld false 1 (.t 33)),
  o1 35 (.mov (.t 1)),
  o1 36 (.ixs 1 (.t 34) (.t 35)),
  o1 37 (.ld false 1 (.t 36)),
  o1 38 (.len (.t 37)),
  o1 39 (.mov (.i 0))]
def r173_6 : List MOper := [o1 40 (.bin .lss (.t 39) (.t 38))]
def r173_7 : List MOper := [o1 41 (.mov (.t 39)),
  o1 42 (.ixs 1 (.t 37) (.t 39)),
  o1 43 (.ld false 1 (.t 42)),
  o1 6 (.mov (.t 41)),
  o1 7 (.mov (.t 43))]
def q173_8 : List MOper := [o1 44 (.mov (.t 0)),
  o1 45 (.mov (.t 0)),
  o1 46 (.nilck (.t 45)),
  o1 47 (.fld 6 (.t 46)),
  ox (some 48) none .R false (.ld false 1 (.t 47)),
  o1 49 (.mov (.t 7)),
  o1 50 (.ixs 4 (.t 48) (.t 49)),
  ox (some 51) none .R false (.ld true 4 (.t 50)),
  o1 52 (.mov (.t 0)),
  o1 53 (.nilck (.t 52)),
  o1 54 (.fld 2 (.t 53)),
  ox (some 55) none .R false (.ld false 1 (.t 54)),
  o1 56 (.mov (.t 1)),
  o1 57 (.ixs 1 (.t 55) (.t 56)),
  ox (some 58) none .R false (.ld false 1 (.t 57)),
  ox (some 59) none .R false (.call 190 [(.t 44), (.t 51), (.t 58)]),
  ox (some 8) none .A false (.alloc [.int .i64 0, .int .i64 0, .int .i64 0, .bool false] []),
  ox none none .L false (.st 4 (.t 8) (.t 59))]
def r173_8 : List MOper := q173_8
def r173_9 : List MOper := [o1 60 (.ld true 4 (.t 8)),
  o1 61 (.ld true 4 (.t 5)),
  o1 62 (.call 174 [(.t 60), (.t 61)]),
  o1 9 (.mov (.t 62))]
def r173_10 : List MOper := [o1 63 (.mov (.t 6)),
  o1 64 (.bin .eql (.t 63) (.i 0)),
  o1 65 (.mov (.t 64)),
  o2 66 65 false (.mov (.t 0)),
  o2 67 65 false (.nilck (.t 66)),
  o2 68 65 false (.fld 0 (.t 67)),
  o2 69 65 false (.fld 0 (.t 68)),
  o2 70 65 false (.ld false 1 (.t 69)),
  o2 71 65 false (.mov (.t 1)),
  o2 72 65 false (.ixs 1 (.t 70) (.t 71)),
  o2 73 65 false (.ld false 1 (.t 72)),
  o2 74 65 false (.bin .eql (.t 73) (.i 1)),
  o2 75 65 false (.mov (.t 74)),
  o2 76 75 true (.mov (.t 9)),
  o2 77 75 true (.bin .lss (.t 76) (.i 0)),
  o2 78 65 false (.pick (.t 75) (.t 77) (.c (.bool false))),
  o1 79 (.pick (.t 65) (.c (.bool true)) (.t 78)),
  o1 80 (.mov (.t 79)),
  o2 81 80 false (.mov (.t 0)),
  o2 82 80 false (.nilck (.t 81)),
  o2 83 80 false (.fld 0 (.t 82)),
  o2 84 80 false (.fld 0 (.t 83)),
  o2 85 80 false (.ld false 1 (.t 84)),
  o2 86 80 false (.mov (.t 1)),
  o2 87 80 false (.ixs 1 (.t 85) (.t 86)),
  o2 88 80 false (.ld false 1 (.t 87)),
  o2 89 80 false (.bin .eql (.t 88) (.i 0)),
  o2 90 80 false (.mov (.t 89)),
  o2 91 90 true (.mov (.t 9)),
  o2 92 90 true (.bin .gtr (.t 91) (.i 0)),
  o2 93 80 false (.pick (.t 90) (.t 92) (.c (.bool false))),
  o1 94 (.pick (.t 80) (.c (.bool true)) (.t 93))]
def r173_11 : List MOper := [o1 95 (.ld true 4 (.t 8)),
  n1 (.st 4 (.t 5) (.t 95))]
def r173_12 : List MOper := [o1 96 (.bin .add (.t 39) (.i 1)),
  o1 39 (.mov (.t 96))]
def b173_1 : MCode := .seq (.reg false r173_6 [0, 1, 4, 5, 37, 38, 39, 40])
 (.seq (.cond 40 (.skip) (.exit 0))
 (.seq (.block 1 (.seq (.reg false r173_7 [0, 1, 4, 5, 6, 7, 37, 38, 39])
 (.seq (.reg true r173_8 [0, 1, 4, 5, 6, 8, 37, 38, 39])
 (.seq (.reg false r173_9 [0, 1, 4, 5, 6, 8, 9, 37, 38, 39])
 (.seq (.reg false r173_10 [0, 1, 4, 5, 8, 37, 38, 39, 94])
 (.cond 94 (.reg false r173_11 [0, 1, 4, 5, 37, 38, 39]) (.skip)))))))
 (.reg false r173_12 [0, 1, 4, 5, 37, 38, 39])))
def r173_13 : List MOper := [o1 97 (.ld true 4 (.t 5)),
  n1 (.st 4 (.t 4) (.t 97))]
def c173 : MCode := .seq (.reg false r173_1 [0, 1, 4])
 (.seq (.seq (.reg false r173_2 [0, 1, 4, 19])
 (.cond 19 (.seq (.reg false r173_3 [4])
 (.ret)) (.skip)))
 (.seq (.reg false r173_4 [0, 1, 4, 5])
 (.seq (.seq (.reg false r173_5 [0, 1, 4, 5, 37, 38, 39])
 (.block 0 (.loop [0, 1, 4, 5, 37, 38, 39] b173_1)))
 (.seq (.reg false r173_13 [4])
 (.ret)))))
def m173 : MFunc := ⟨1, [.cell 4 true 4], c173⟩
def r174_1 : List MOper := [o1 2 (.box (.t 0)),
  o1 3 (.box (.t 1)),
  o1 4 (.mov (.i 0))]
def r174_2 : List MOper := [o1 7 (.fld 3 (.t 2)),
  o1 8 (.ld false 1 (.t 7)),
  o1 9 (.mov (.t 8)),
  o2 10 9 false (.fld 3 (.t 3)),
  o2 11 9 false (.ld false 1 (.t 10)),
  o1 12 (.pick (.t 9) (.c (.bool true)) (.t 11)),
  o1 6 (.mov (.t 12))]
def q174_3 : List MOper := [o1 13 (.fld 3 (.t 2)),
  ox (some 14) none .R false (.ld false 1 (.t 13)),
  ox (some 15) none .R false (.call 192 [(.t 14)]),
  o1 16 (.fld 3 (.t 3)),
  ox (some 17) none .R false (.ld false 1 (.t 16)),
  ox (some 18) none .R false (.call 192 [(.t 17)]),
  ox (some 19) none .R false (.call 191 [(.t 15), (.t 18)]),
  o1 4 (.mov (.t 19))]
def r174_3 : List MOper := q174_3
def r174_4 : List MOper := [o1 5 (.mov (.i 2))]
def r174_5 : List MOper := [o1 20 (.mov (.t 5)),
  o1 21 (.bin .geq (.t 20) (.i 0))]
def q174_6 : List MOper := [o1 24 (.mov (.t 5)),
  o1 25 (.fld 0 (.t 2)),
  o1 26 (.ixa 3 1 (.t 25) (.t 24)),
  ox (some 27) none .R false (.ld false 1 (.t 26)),
  o1 28 (.mov (.t 5)),
  o1 29 (.fld 0 (.t 3)),
  o1 30 (.ixa 3 1 (.t 29) (.t 28)),
  ox (some 31) none .R false (.ld false 1 (.t 30)),
  o1 32 (.bin .neq (.t 27) (.t 31))]
def r174_6 : List MOper := q174_6
def q174_7 : List MOper := [o1 33 (.mov (.t 5)),
  o1 34 (.fld 0 (.t 2)),
  o1 35 (.ixa 3 1 (.t 34) (.t 33)),
  ox (some 36) none .R false (.ld false 1 (.t 35)),
  o1 37 (.mov (.t 5)),
  o1 38 (.fld 0 (.t 3)),
  o1 39 (.ixa 3 1 (.t 38) (.t 37)),
  ox (some 40) none .R false (.ld false 1 (.t 39)),
  ox (some 41) none .R false (.call 191 [(.t 36), (.t 40)]),
  o1 4 (.mov (.t 41))]
def r174_7 : List MOper := q174_7
def r174_8 : List MOper := [o1 22 (.mov (.t 5)),
  o1 23 (.bin .sub (.t 22) (.i 1)),
  o1 5 (.mov (.t 23))]
def b174_1 : MCode := .seq (.seq (.reg false r174_5 [2, 3, 5, 21])
 (.cond 21 (.skip) (.exit 1)))
 (.seq (.block 2 (.seq (.reg true r174_6 [2, 3, 5, 32])
 (.cond 32 (.seq (.reg true r174_7 [4])
 (.ret)) (.skip))))
 (.reg false r174_8 [2, 3, 5]))
def r174_9 : List MOper := [o1 4 (.mov (.i 0))]
def c174 : MCode := .seq (.reg false r174_1 [2, 3])
 (.seq (.block 0 (.seq (.reg false r174_2 [2, 3, 6])
 (.cond 6 (.seq (.reg true r174_3 [4])
 (.ret)) (.skip))))
 (.seq (.seq (.reg false r174_4 [2, 3, 5])
 (.block 1 (.loop [2, 3, 5] b174_1)))
 (.seq (.reg false r174_9 [4])
 (.ret))))
def m174 : MFunc := ⟨3, [.tmp 4], c174⟩
def r175_1 : List MOper := [o1 2 (.box (.t 0)),
  o1 4 (.mov (.c (.fz .isnil 1 [])))]
def r175_2 : List MOper := [o1 8 (.ld true 2 (.t 2)),
  o1 9 (.call 69 [(.t 8)]),
  o1 10 (.bin .neq (.t 9) (.i 0))]
def r175_3 : List MOper := [o1 4 (.mov (.c (.fz .isnil 1 [])))]
def r175_4 : List MOper := [o1 11 (.fld 0 (.t 2)),
  o1 12 (.ld false 1 (.t 11)),
  o1 13 (.len (.t 12)),
  o1 14 (.mksl 1 (.bool false) (.t 13)),
  o1 5 (.mov (.t 14))]
def r175_5 : List MOper := [o1 15 (.fld 0 (.t 2)),
  o1 16 (.ld false 1 (.t 15)),
  o1 17 (.len (.t 16)),
  o1 18 (.mov (.i 0))]
def r175_6 : List MOper := [o1 19 (.bin .lss (.t 18) (.t 17))]
def r175_7 : List MOper := [o1 20 (.mov (.t 18)),
  o1 21 (.ixs 1 (.t 16) (.t 18)),
  o1 22 (.ld false 1 (.t 21)),
  o1 6 (.mov (.t 20)),
  o1 7 (.mov (.t 22))]
def r175_8 : List MOper := [o1 23 (.mov (.t 5)),
  o1 24 (.mov (.t 6)),
  o1 25 (.mov (.t 7)),
  o1 26 (.mov (.t 1)),
  o1 27 (.bin .eql (.t 25) (.t 26)),
  o1 28 (.mov (.t 27)),
  o2 29 28 true (.fld 1 (.t 2)),
  o2 30 28 true (.ld false 1 (.t 29)),
  o2 31 28 true (.mov (.t 6)),
  o2 32 28 true (.ixs 1 (.t 30) (.t 31)),
  o2 33 28 true (.ld false 1 (.t 32)),
  o2 34 28 true (.len (.t 33)),
  o2 35 28 true (.bin .eql (.t 34) (.i 0)),
  o1 36 (.pick (.t 28) (.t 35) (.c (.bool false))),
  o1 37 (.ixs 1 (.t 23) (.t 24)),
  n1 (.st 1 (.t 37) (.t 36))]
def r175_9 : List MOper := [o1 38 (.bin .add (.t 18) (.i 1)),
  o1 18 (.mov (.t 38))]
def b175_1 : MCode := .seq (.reg false r175_6 [1, 2, 5, 16, 17, 18, 19])
 (.seq (.cond 19 (.skip) (.exit 0))
 (.seq (.block 1 (.seq (.reg false r175_7 [1, 2, 5, 6, 7, 16, 17, 18])
 (.reg false r175_8 [1, 2, 5, 16, 17, 18])))
 (.reg false r175_9 [1, 2, 5, 16, 17, 18])))
def r175_10 : List MOper := [o1 39 (.mov (.t 5)),
  o1 4 (.mov (.t 39))]
def c175 : MCode := .seq (.reg false r175_1 [1, 2])
 (.seq (.seq (.reg false r175_2 [1, 2, 10])
 (.cond 10 (.seq (.reg false r175_3 [4])
 (.ret)) (.skip)))
 (.seq (.reg false r175_4 [1, 2, 5])
 (.seq (.seq (.reg false r175_5 [1, 2, 5, 16, 17, 18])
 (.block 0 (.loop [1, 2, 5, 16, 17, 18] b175_1)))
 (.seq (.reg false r175_10 [4])
 (.ret)))))
def m175 : MFunc := ⟨3, [.tmp 4], c175⟩
def r176_1 : List MOper := [o1 6 (.mov (.t 0)),
  o1 7 (.nilck (.t 6)),
  o1 8 (.fld 4 (.t 7)),
  o1 9 (.ld false 1 (.t 8)),
  o1 10 (.mov (.t 1)),
  o1 11 (.ixs 1 (.t 9) (.t 10)),
  o1 12 (.ld false 1 (.t 11)),
  o1 13 (.bin .lss (.t 12) (.i 0))]
def r176_2 : List MOper := [o1 14 (.mov (.t 0)),
  o1 15 (.nilck (.t 14)),
  o1 16 (.fld 4 (.t 15)),
  o1 17 (.ld false 1 (.t 16)),
  o1 18 (.mov (.t 1)),
  o1 19 (.mov (.t 2)),
  o1 20 (.ixs 1 (.t 17) (.t 18)),
  n1 (.st 1 (.t 20) (.t 19))]
def r176_3 : List MOper := [o1 21 (.mov (.t 0)),
  o1 22 (.nilck (.t 21)),
  o1 23 (.fld 5 (.t 22)),
  o1 24 (.mkif 166 (.t 23)),
  o1 25 (.mov (.t 1)),
  o1 26 (.mov (.t 2)),
  o1 27 (.build [.int .i64 0, .int .i64 0] [] [(0, 1, (.t 25)), (1, 1, (.t 26))]),
  o1 28 (.mkif 164 (.t 27)),
  o1 29 (.call 188 [(.t 24), (.t 28)])]
def c176 : MCode := .seq (.reg false r176_1 [0, 1, 2, 13])
 (.cond 13 (.seq (.reg false r176_2 [0, 1, 2])
 (.reg false r176_3 [])) (.skip))
def m176 : MFunc := ⟨0, [], c176⟩
def r177_1 : List MOper := [o1 4 (.mov (.c (.bool false)))]
def r177_2 : List MOper := [o1 5 (.mov (.t 0)),
  o1 6 (.nilck (.t 5)),
  o1 7 (.fld 3 (.t 6)),
  o1 8 (.ld false 1 (.t 7)),
  o1 9 (.mov (.t 1)),
  o1 10 (.ixs 1 (.t 8) (.t 9)),
  o1 11 (.ld false 1 (.t 10)),
  o1 12 (.bin .sub (.t 11) (.i 1)),
  o1 13 (.ixs 1 (.t 8) (.t 9)),
  n1 (.st 1 (.t 13) (.t 12))]
def q177_3 : List MOper := [o1 14 (.mov (.t 0)),
  o1 15 (.nilck (.t 14)),
  o1 16 (.fld 0 (.t 15)),
  o1 17 (.fld 0 (.t 16)),
  ox (some 18) none .R false (.ld false 1 (.t 17)),
  o1 19 (.mov (.t 1)),
  o1 20 (.ixs 1 (.t 18) (.t 19)),
  ox (some 21) none .R false (.ld false 1 (.t 20)),
  o1 22 (.mov (.t 0)),
  o1 23 (.nilck (.t 22)),
  o1 24 (.fld 2 (.t 23)),
  ox (some 25) none .R false (.ld false 1 (.t 24)),
  o1 26 (.bin .eql (.t 21) (.t 25)),
  o1 27 (.mov (.t 26)),
  o2 28 27 false (.mov (.t 0)),
  o2 29 27 false (.nilck (.t 28)),
  o2 30 27 false (.fld 3 (.t 29)),
  ox (some 31) (some (27, false)) .R false (.ld false 1 (.t 30)),
  o2 32 27 false (.mov (.t 1)),
  o2 33 27 false (.ixs 1 (.t 31) (.t 32)),
  ox (some 34) (some (27, false)) .R false (.ld false 1 (.t 33)),
  o2 35 27 false (.bin .eql (.t 34) (.i 0)),
  o1 36 (.pick (.t 27) (.c (.bool true)) (.t 35)),
  o1 4 (.mov (.t 36))]
def r177_3 : List MOper := q177_3
def c177 : MCode := .seq (.reg false r177_1 [0, 1])
 (.seq (.reg false r177_2 [0, 1])
 (.seq (.reg true r177_3 [4])
 (.ret)))
def m177 : MFunc := ⟨0, [.tmp 4], c177⟩
def r178_1 : List MOper := [o1 4 (.mov (.c (.int .u64 0))),
  o1 5 (.mov (.c (.int .u64 0)))]
def r178_2 : List MOper := [o1 23 (.mov (.t 0)),
  o1 24 (.mov (.t 1)),
  o1 25 (.call 194 [(.t 23), (.t 24)]),
  o1 22 (.mov (.t 25)),
  o1 26 (.ext (.t 22) 0),
  o1 27 (.ext (.t 22) 1),
  o1 8 (.mov (.t 26)),
  o1 9 (.mov (.t 27))]
def r178_3 : List MOper := [o1 28 (.mov (.t 8)),
  o1 29 (.mov (.t 9)),
  o1 4 (.mov (.t 28)),
  o1 5 (.mov (.t 29))]
def c178 : MCode := .seq (.reg false r178_1 [0, 1])
 (.seq (.con false (.skip))
 (.seq (.reg false r178_2 [8, 9])
 (.seq (.reg false r178_3 [4, 5])
 (.ret))))
def m178 : MFunc := ⟨3, [.tmp 4, .tmp 5], c178⟩
def r179_1 : List MOper := [o1 5 (.box (.t 2)),
  o1 6 (.mov (.i 0))]
def r179_2 : List MOper := [o1 8 (.mov (.t 0)),
  o1 9 (.nilck (.t 8)),
  o1 10 (.fld 0 (.t 9)),
  o1 11 (.fld 1 (.t 10)),
  o1 12 (.ld false 1 (.t 11)),
  o1 13 (.mov (.t 1)),
  o1 14 (.ixs 1 (.t 12) (.t 13)),
  o1 15 (.ld false 1 (.t 14)),
  o1 16 (.mkfn 196 [] [(.t 5)]),
  o1 17 (.call 195 [(.t 15), (.t 16)]),
  o1 7 (.mov (.t 17))]
def r179_3 : List MOper := [o1 18 (.mov (.t 7)),
  o1 19 (.bin .lss (.t 18) (.i 0))]
def r179_4 : List MOper := [o1 6 (.mov (.i (-1)))]
def r179_5 : List MOper := [o1 20 (.mov (.t 0)),
  o1 21 (.nilck (.t 20)),
  o1 22 (.fld 0 (.t 21)),
  o1 23 (.fld 1 (.t 22)),
  o1 24 (.ld false 1 (.t 23)),
  o1 25 (.mov (.t 1)),
  o1 26 (.ixs 1 (.t 24) (.t 25)),
  o1 27 (.ld false 1 (.t 26)),
  o1 28 (.mov (.t 7)),
  o1 29 (.ixs 1 (.t 27) (.t 28)),
  o1 30 (.ld false 1 (.t 29)),
  o1 6 (.mov (.t 30))]
def c179 : MCode := .seq (.reg false r179_1 [0, 1, 5])
 (.seq (.reg false r179_2 [0, 1, 7])
 (.seq (.seq (.reg false r179_3 [0, 1, 7, 19])
 (.cond 19 (.seq (.reg false r179_4 [6])
 (.ret)) (.skip)))
 (.seq (.reg false r179_5 [6])
 (.ret))))
def m179 : MFunc := ⟨1, [.tmp 6], c179⟩
def r180_1 : List MOper := [o1 4 (.mov (.c (.fz .isnil 1 [])))]
def r180_2 : List MOper := [o1 5 (.mov (.t 0)),
  o1 6 (.nilck (.t 5)),
  o1 7 (.fld 0 (.t 6)),
  o1 8 (.ld true 2 (.t 7)),
  o1 9 (.mov (.t 1)),
  o1 10 (.call 39 [(.t 8), (.i 1), (.t 9)]),
  o1 4 (.mov (.t 10))]
def c180 : MCode := .seq (.reg false r180_1 [0, 1])
 (.seq (.reg false r180_2 [4])
 (.ret))
def m180 : MFunc := ⟨1, [.tmp 4], c180⟩
def r181_1 : List MOper := [o1 3 (.box (.t 0)),
  o1 6 (.mov (.c (.fz .isnil 1 [])))]
def q181_2 : List MOper := [ox (some 12) none .R false (.ld false 1 (.t 3)),
  o1 13 (.nilck (.t 12)),
  o1 14 (.fld 0 (.t 13)),
  ox (some 15) none .R false (.ld true 2 (.t 14)),
  o1 16 (.mov (.t 1)),
  ox (some 17) none .R false (.ld false 1 (.t 3)),
  o1 18 (.mov (.t 2)),
  ox (some 19) none .R false (.call 180 [(.t 17), (.t 18)]),
  ox (some 20) none .R false (.call 68 [(.t 15), (.t 16), (.t 19)]),
  ox (some 7) none .A false (.alloc [.fz .isnil 1 []] []),
  ox none none .L false (.st 1 (.t 7) (.t 20))]
def r181_2 : List MOper := q181_2
def r181_3 : List MOper := [o1 8 (.mov (.c (.fz .isnil 1 [])))]
def r181_4 : List MOper := [o1 21 (.ld false 1 (.t 3)),
  o1 22 (.nilck (.t 21)),
  o1 23 (.fld 2 (.t 22)),
  o1 24 (.ld false 1 (.t 23)),
  o1 25 (.len (.t 24)),
  o1 26 (.mov (.i 0))]
def r181_5 : List MOper := [o1 27 (.bin .lss (.t 26) (.t 25))]
def r181_6 : List MOper := [o1 28 (.ixs 1 (.t 24) (.t 26)),
  o1 29 (.ld false 1 (.t 28)),
  o1 10 (.alloc [.fz .isnil 1 []] []),
  n1 (.st 1 (.t 10) (.t 29))]
def r181_7 : List MOper := [o1 30 (.ld false 1 (.t 3)),
  o1 31 (.mkfn 198 [] [(.t 3), (.t 7), (.t 10)]),
  o1 32 (.call 197 [(.t 30), (.t 31)]),
  o1 11 (.mov (.t 32))]
def r181_8 : List MOper := [o1 33 (.ld false 1 (.t 3)),
  o1 34 (.nilck (.t 33)),
  o1 35 (.fld 0 (.t 34)),
  o1 36 (.ld true 2 (.t 35)),
  o1 37 (.mov (.t 8)),
  o1 38 (.mov (.t 11)),
  o1 39 (.call 68 [(.t 36), (.t 37), (.t 38)]),
  o1 8 (.mov (.t 39))]
def r181_9 : List MOper := [o1 40 (.bin .add (.t 26) (.i 1)),
  o1 26 (.mov (.t 40))]
def b181_1 : MCode := .seq (.reg false r181_5 [3, 7, 8, 24, 25, 26, 27])
 (.seq (.cond 27 (.skip) (.exit 0))
 (.seq (.block 1 (.seq (.reg false r181_6 [3, 7, 8, 10, 24, 25, 26])
 (.seq (.reg false r181_7 [3, 7, 8, 11, 24, 25, 26])
 (.reg false r181_8 [3, 7, 8, 24, 25, 26]))))
 (.reg false r181_9 [3, 7, 8, 24, 25, 26])))
def r181_10 : List MOper := [o1 41 (.mov (.t 8)),
  o1 6 (.mov (.t 41))]
def c181 : MCode := .seq (.reg false r181_1 [1, 2, 3])
 (.seq (.reg true r181_2 [3, 7])
 (.seq (.reg false r181_3 [3, 7, 8])
 (.seq (.seq (.reg false r181_4 [3, 7, 8, 24, 25, 26])
 (.block 0 (.loop [3, 7, 8, 24, 25, 26] b181_1)))
 (.seq (.reg false r181_10 [6])
 (.ret)))))
def m181 : MFunc := ⟨1, [.tmp 6], c181⟩
def q182_1 : List MOper := [o1 4 (.mov (.t 0)),
  o1 5 (.nilck (.t 4)),
  o1 6 (.fld 7 (.t 5)),
  ox (some 7) none .R false (.ld false 1 (.t 6)),
  o1 8 (.mov (.t 0)),
  o1 9 (.nilck (.t 8)),
  o1 10 (.fld 7 (.t 9)),
  ox (some 11) none .R false (.ld false 1 (.t 10)),
  o1 12 (.len (.t 11)),
  o1 13 (.bin .sub (.t 12) (.i 1)),
  o1 14 (.ixs 2 (.t 7) (.t 13)),
  o1 2 (.mov (.t 14))]
def r182_1 : List MOper := q182_1
def q182_2 : List MOper := [o1 15 (.mov (.t 2)),
  o1 16 (.nilck (.t 15)),
  o1 17 (.fld 1 (.t 16)),
  ox (some 18) none .R false (.ld false 1 (.t 17)),
  o1 19 (.mov (.t 0)),
  o1 20 (.nilck (.t 19)),
  o1 21 (.fld 0 (.t 20)),
  ox (some 22) none .R false (.ld false 1 (.t 21)),
  o1 23 (.mov (.t 2)),
  o1 24 (.nilck (.t 23)),
  o1 25 (.fld 0 (.t 24)),
  ox (some 26) none .R false (.ld false 1 (.t 25)),
  o1 27 (.ixs 1 (.t 22) (.t 26)),
  ox (some 28) none .R false (.ld false 1 (.t 27)),
  o1 29 (.len (.t 28)),
  o1 30 (.bin .eql (.t 18) (.t 29))]
def r182_2 : List MOper := q182_2
def r182_3 : List MOper := [o1 31 (.mov (.t 0)),
  o1 32 (.mov (.t 2)),
  o1 33 (.nilck (.t 32)),
  o1 34 (.fld 0 (.t 33)),
  o1 35 (.ld false 1 (.t 34)),
  o1 36 (.call 199 [(.t 31), (.t 35)])]
def q182_4 : List MOper := [o1 37 (.mov (.t 0)),
  o1 38 (.nilck (.t 37)),
  o1 39 (.fld 0 (.t 38)),
  ox (some 40) none .R false (.ld false 1 (.t 39)),
  o1 41 (.mov (.t 2)),
  o1 42 (.nilck (.t 41)),
  o1 43 (.fld 0 (.t 42)),
  ox (some 44) none .R false (.ld false 1 (.t 43)),
  o1 45 (.ixs 1 (.t 40) (.t 44)),
  ox (some 46) none .R false (.ld false 1 (.t 45)),
  o1 47 (.mov (.t 2)),
  o1 48 (.nilck (.t 47)),
  o1 49 (.fld 1 (.t 48)),
  ox (some 50) none .R false (.ld false 1 (.t 49)),
  o1 51 (.ixs 1 (.t 46) (.t 50)),
  ox (some 52) none .R false (.ld false 1 (.t 51)),
  o1 3 (.mov (.t 52))]
def r182_4 : List MOper := q182_4
def r182_5 : List MOper := [o1 53 (.mov (.t 2)),
  o1 54 (.nilck (.t 53)),
  o1 55 (.fld 1 (.t 54)),
  o1 56 (.ld false 1 (.t 55)),
  o1 57 (.bin .add (.t 56) (.i 1)),
  o1 58 (.nilck (.t 53)),
  o1 59 (.fld 1 (.t 58)),
  n1 (.st 1 (.t 59) (.t 57))]
def r182_6 : List MOper := [o1 61 (.mov (.t 0)),
  o1 62 (.nilck (.t 61)),
  o1 63 (.fld 1 (.t 62)),
  o1 64 (.ld false 1 (.t 63)),
  o1 65 (.mov (.t 3)),
  o1 66 (.ixs 1 (.t 64) (.t 65)),
  o1 67 (.ld false 1 (.t 66)),
  o1 68 (.not (.t 67)),
  o1 60 (.mov (.t 68))]
def r182_7 : List MOper := [o1 70 (.mov (.t 0)),
  o1 71 (.nilck (.t 70)),
  o1 72 (.fld 2 (.t 71)),
  o1 73 (.ld false 1 (.t 72)),
  o1 74 (.mov (.t 3)),
  o1 75 (.ixs 1 (.t 73) (.t 74)),
  o1 76 (.ld false 1 (.t 75)),
  o1 77 (.bin .eql (.t 76) (.i 0)),
  o1 69 (.mov (.t 77))]
def r182_8 : List MOper := [o1 78 (.mov (.t 0)),
  o1 79 (.mov (.t 3)),
  o1 80 (.call 183 [(.t 78), (.t 79)])]
def r182_9 : List MOper := [o1 82 (.mov (.t 0)),
  o1 83 (.nilck (.t 82)),
  o1 84 (.fld 4 (.t 83)),
  o1 85 (.ld false 1 (.t 84)),
  o1 86 (.mov (.t 3)),
  o1 87 (.ixs 1 (.t 85) (.t 86)),
  o1 88 (.ld false 1 (.t 87)),
  o1 81 (.mov (.t 88))]
def q182_10 : List MOper := [o1 89 (.mov (.t 0)),
  o1 90 (.nilck (.t 89)),
  o1 91 (.fld 3 (.t 90)),
  ox (some 92) none .R false (.ld false 1 (.t 91)),
  o1 93 (.mov (.t 2)),
  o1 94 (.nilck (.t 93)),
  o1 95 (.fld 0 (.t 94)),
  ox (some 96) none .R false (.ld false 1 (.t 95)),
  o1 97 (.mov (.t 0)),
  o1 98 (.nilck (.t 97)),
  o1 99 (.fld 3 (.t 98)),
  ox (some 100) none .R false (.ld false 1 (.t 99)),
  o1 101 (.mov (.t 2)),
  o1 102 (.nilck (.t 101)),
  o1 103 (.fld 0 (.t 102)),
  ox (some 104) none .R false (.ld false 1 (.t 103)),
  o1 105 (.ixs 1 (.t 100) (.t 104)),
  ox (some 106) none .R false (.ld false 1 (.t 105)),
  o1 107 (.mov (.t 0)),
  o1 108 (.nilck (.t 107)),
  o1 109 (.fld 2 (.t 108)),
  ox (some 110) none .R false (.ld false 1 (.t 109)),
  o1 111 (.mov (.t 3)),
  o1 112 (.ixs 1 (.t 110) (.t 111)),
  ox (some 113) none .R false (.ld false 1 (.t 112)),
  o1 114 (.mn [(.t 106), (.t 113)]),
  o1 115 (.ixs 1 (.t 92) (.t 96)),
  ox none none .L false (.st 1 (.t 115) (.t 114))]
def r182_10 : List MOper := q182_10
def c182 : MCode := .seq (.reg true r182_1 [0, 2])
 (.seq (.seq (.reg true r182_2 [0, 2, 30])
 (.cond 30 (.seq (.reg false r182_3 [])
 (.ret)) (.skip)))
 (.seq (.reg true r182_4 [0, 2, 3])
 (.seq (.reg false r182_5 [0, 2, 3])
 (.block 0 (.seq (.reg false r182_6 [0, 2, 3, 60])
 (.cond 60 (.skip) (.seq (.reg false r182_7 [0, 2, 3, 69])
 (.cond 69 (.reg false r182_8 []) (.seq (.reg false r182_9 [0, 2, 3, 81])
 (.cond 81 (.reg true r182_10 []) (.skip)))))))))))
def m182 : MFunc := ⟨0, [], c182⟩
end Go.Proofs.Ytlilfiekkaolkaa.Am
