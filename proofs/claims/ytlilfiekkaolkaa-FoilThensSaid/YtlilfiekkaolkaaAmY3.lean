/- The functions as code of the abstract machine (printed by gen.py), part 3. -/
import Derived.Test.YtlilfiekkaolkaaAmX
set_option linter.unusedVariables false
namespace Go.Proofs.Ytlilfiekkaolkaa.Am
open Go
def r73_1 : List MOper := [o1 2 (.box (.t 0)),
  o1 4 (.mov (.c (.bool false)))]
def r73_2 : List MOper := [o1 7 (.ld true 2 (.t 2)),
  o1 8 (.call 69 [(.t 7)]),
  o1 9 (.bin .neq (.t 8) (.i 0)),
  o1 10 (.mov (.t 9)),
  o2 11 10 false (.mov (.t 1)),
  o2 12 10 false (.len (.t 11)),
  o2 13 10 false (.fld 0 (.t 2)),
  o2 14 10 false (.ld false 1 (.t 13)),
  o2 15 10 false (.len (.t 14)),
  o2 16 10 false (.bin .neq (.t 12) (.t 15)),
  o1 17 (.pick (.t 10) (.c (.bool true)) (.t 16))]
def r73_3 : List MOper := [o1 4 (.mov (.c (.bool false)))]
def r73_4 : List MOper := [o1 18 (.mov (.t 1)),
  o1 19 (.len (.t 18)),
  o1 20 (.mov (.i 0))]
def r73_5 : List MOper := [o1 21 (.bin .lss (.t 20) (.t 19))]
def r73_6 : List MOper := [o1 22 (.ixs 1 (.t 18) (.t 20)),
  o1 23 (.ld false 1 (.t 22)),
  o1 6 (.mov (.t 23))]
def r73_7 : List MOper := [o1 24 (.mov (.t 6)),
  o1 25 (.bin .lss (.t 24) (.i 0)),
  o1 26 (.mov (.t 25)),
  o2 27 26 false (.mov (.t 6)),
  o2 28 26 false (.bin .geq (.t 27) (.i 6)),
  o1 29 (.pick (.t 26) (.c (.bool true)) (.t 28))]
def r73_8 : List MOper := [o1 4 (.mov (.c (.bool false)))]
def r73_9 : List MOper := [o1 30 (.bin .add (.t 20) (.i 1)),
  o1 20 (.mov (.t 30))]
def b73_1 : MCode := .seq (.reg false r73_5 [18, 19, 20, 21])
 (.seq (.cond 21 (.skip) (.exit 0))
 (.seq (.block 1 (.seq (.reg false r73_6 [6, 18, 19, 20])
 (.seq (.reg false r73_7 [18, 19, 20, 29])
 (.cond 29 (.seq (.reg false r73_8 [4])
 (.ret)) (.skip)))))
 (.reg false r73_9 [18, 19, 20])))
def r73_10 : List MOper := [o1 4 (.mov (.c (.bool true)))]
def c73 : MCode := .seq (.reg false r73_1 [1, 2])
 (.seq (.seq (.reg false r73_2 [1, 17])
 (.cond 17 (.seq (.reg false r73_3 [4])
 (.ret)) (.skip)))
 (.seq (.seq (.reg false r73_4 [18, 19, 20])
 (.block 0 (.loop [18, 19, 20] b73_1)))
 (.seq (.reg false r73_10 [4])
 (.ret))))
def m73 : MFunc := ⟨3, [.tmp 4], c73⟩
def r74_1 : List MOper := [o1 2 (.box (.t 0)),
  o1 4 (.mov (.c (.fz .isnil 1 [])))]
def r74_2 : List MOper := [o1 5 (.tnil 1)]
def r74_3 : List MOper := [o1 8 (.ld true 2 (.t 2)),
  o1 9 (.mov (.t 1)),
  o1 10 (.call 135 [(.t 8), (.t 9)]),
  o1 11 (.len (.t 10)),
  o1 12 (.mov (.i 0))]
def r74_4 : List MOper := [o1 13 (.bin .lss (.t 12) (.t 11))]
def r74_5 : List MOper := [o1 14 (.ixs 4 (.t 10) (.t 12)),
  o1 15 (.ld true 4 (.t 14)),
  o1 7 (.alloc [.int .i64 0, .int .i64 0, .int .i64 0, .bool false] []),
  n1 (.st 4 (.t 7) (.t 15))]
def r74_6 : List MOper := [o1 16 (.fld 3 (.t 7)),
  o1 17 (.ld false 1 (.t 16))]
def r74_7 : List MOper := [o1 18 (.mov (.t 5)),
  o1 19 (.bsl false 1 [(.i 0)]),
  o1 20 (.app 1 (.t 18) (.t 19)),
  o1 5 (.mov (.t 20))]
def r74_8 : List MOper := [o1 21 (.mov (.t 5)),
  o1 22 (.bsl false 1 [(.i 1)]),
  o1 23 (.app 1 (.t 21) (.t 22)),
  o1 5 (.mov (.t 23))]
def r74_9 : List MOper := [o1 24 (.bin .add (.t 12) (.i 1)),
  o1 12 (.mov (.t 24))]
def b74_1 : MCode := .seq (.reg false r74_4 [5, 10, 11, 12, 13])
 (.seq (.cond 13 (.skip) (.exit 0))
 (.seq (.block 1 (.seq (.reg false r74_5 [5, 7, 10, 11, 12])
 (.seq (.reg false r74_6 [5, 10, 11, 12, 17])
 (.cond 17 (.reg false r74_7 [5, 10, 11, 12]) (.reg false r74_8 [5, 10, 11, 12])))))
 (.reg false r74_9 [5, 10, 11, 12])))
def r74_10 : List MOper := [o1 25 (.mov (.t 5)),
  o1 4 (.mov (.t 25))]
def c74 : MCode := .seq (.reg false r74_1 [1, 2])
 (.seq (.reg false r74_2 [1, 2, 5])
 (.seq (.seq (.reg false r74_3 [5, 10, 11, 12])
 (.block 0 (.loop [5, 10, 11, 12] b74_1)))
 (.seq (.reg false r74_10 [4])
 (.ret))))
def m74 : MFunc := ⟨3, [.tmp 4], c74⟩
def r75_1 : List MOper := [o1 3 (.box (.t 0)),
  o1 6 (.mov (.c (.fz .isnil 1 [])))]
def r75_2 : List MOper := [o1 11 (.ld true 2 (.t 3)),
  o1 12 (.call 35 [(.t 11)]),
  o1 13 (.bin .neq (.t 12) (.i 0)),
  o1 14 (.mov (.t 13)),
  o2 15 14 false (.mov (.t 1)),
  o2 16 14 false (.call 122 [(.t 15)]),
  o2 17 14 false (.not (.t 16)),
  o1 18 (.pick (.t 14) (.c (.bool true)) (.t 17))]
def r75_3 : List MOper := [o1 6 (.mov (.c (.fz .isnil 1 [])))]
def r75_4 : List MOper := [o1 19 (.ld true 2 (.t 3)),
  o1 20 (.mov (.t 1)),
  o1 21 (.mov (.t 2)),
  o1 22 (.call 136 [(.t 19), (.t 20), (.t 21)]),
  o1 7 (.mov (.t 22))]
def r75_5 : List MOper := [o1 23 (.mov (.t 7)),
  o1 24 (.len (.t 23)),
  o1 25 (.mksl 1 (.bool false) (.t 24)),
  o1 8 (.mov (.t 25))]
def r75_6 : List MOper := [o1 26 (.mov (.t 7)),
  o1 27 (.len (.t 26)),
  o1 28 (.mov (.i 0))]
def r75_7 : List MOper := [o1 29 (.bin .lss (.t 28) (.t 27))]
def r75_8 : List MOper := [o1 30 (.mov (.t 28)),
  o1 31 (.ixs 1 (.t 26) (.t 28)),
  o1 32 (.ld false 1 (.t 31)),
  o1 9 (.mov (.t 30)),
  o1 10 (.mov (.t 32))]
def r75_9 : List MOper := [o1 33 (.mov (.t 8)),
  o1 34 (.mov (.t 9)),
  o1 35 (.mov (.t 10)),
  o1 36 (.bin .geq (.t 35) (.i 0)),
  o1 37 (.ixs 1 (.t 33) (.t 34)),
  n1 (.st 1 (.t 37) (.t 36))]
def r75_10 : List MOper := [o1 38 (.bin .add (.t 28) (.i 1)),
  o1 28 (.mov (.t 38))]
def b75_1 : MCode := .seq (.reg false r75_7 [8, 26, 27, 28, 29])
 (.seq (.cond 29 (.skip) (.exit 0))
 (.seq (.block 1 (.seq (.reg false r75_8 [8, 9, 10, 26, 27, 28])
 (.reg false r75_9 [8, 26, 27, 28])))
 (.reg false r75_10 [8, 26, 27, 28])))
def r75_11 : List MOper := [o1 39 (.mov (.t 8)),
  o1 6 (.mov (.t 39))]
def c75 : MCode := .seq (.reg false r75_1 [1, 2, 3])
 (.seq (.seq (.reg false r75_2 [1, 2, 3, 18])
 (.cond 18 (.seq (.reg false r75_3 [6])
 (.ret)) (.skip)))
 (.seq (.reg false r75_4 [7])
 (.seq (.reg false r75_5 [7, 8])
 (.seq (.seq (.reg false r75_6 [8, 26, 27, 28])
 (.block 0 (.loop [8, 26, 27, 28] b75_1)))
 (.seq (.reg false r75_11 [6])
 (.ret))))))
def m75 : MFunc := ⟨3, [.tmp 6], c75⟩
def r76_1 : List MOper := [o1 3 (.box (.t 0)),
  o1 6 (.mov (.c (.fz .isnil 1 [])))]
def r76_2 : List MOper := [o1 9 (.ld true 2 (.t 3)),
  o1 10 (.call 35 [(.t 9)]),
  o1 11 (.bin .neq (.t 10) (.i 0)),
  o1 12 (.mov (.t 11)),
  o2 13 12 false (.mov (.t 1)),
  o2 14 12 false (.call 122 [(.t 13)]),
  o2 15 12 false (.not (.t 14)),
  o1 16 (.pick (.t 12) (.c (.bool true)) (.t 15))]
def r76_3 : List MOper := [o1 6 (.mov (.c (.fz .isnil 1 [])))]
def r76_4 : List MOper := [o1 17 (.ld true 2 (.t 3)),
  o1 18 (.call 108 [(.t 17), (.c (.fz .isnil 1 []))]),
  o1 7 (.mov (.t 18))]
def q76_5 : List MOper := [ox (some 19) none .R false (.ld true 2 (.t 3)),
  o1 20 (.mov (.t 1)),
  ox (some 21) none .R false (.ld true 2 (.t 3)),
  o1 22 (.mov (.t 2)),
  ox (some 23) none .R false (.call 112 [(.t 21), (.t 22)]),
  ox (some 24) none .R false (.ld true 2 (.t 3)),
  o1 25 (.mov (.t 1)),
  o1 26 (.mov (.t 7)),
  ox (some 27) none .R false (.call 113 [(.t 24), (.t 25), (.t 26)]),
  ox (some 28) none .R false (.call 111 [(.t 23), (.t 27)]),
  ox (some 29) none .R false (.call 75 [(.t 19), (.t 20), (.t 28)]),
  o1 8 (.mov (.t 29))]
def r76_5 : List MOper := q76_5
def r76_6 : List MOper := [o1 30 (.mov (.t 7)),
  o1 31 (.mov (.t 8)),
  o1 32 (.call 32 [(.t 30), (.t 31)])]
def r76_7 : List MOper := [o1 33 (.mov (.t 7)),
  o1 6 (.mov (.t 33))]
def r76_8 : List MOper := [o1 34 (.mov (.t 8)),
  o1 7 (.mov (.t 34))]
def b76_1 : MCode := .block 1 (.seq (.reg true r76_5 [1, 2, 3, 7, 8])
 (.seq (.seq (.reg false r76_6 [1, 2, 3, 7, 8, 32])
 (.cond 32 (.seq (.reg false r76_7 [6])
 (.ret)) (.skip)))
 (.reg false r76_8 [1, 2, 3, 7])))
def c76 : MCode := .seq (.reg false r76_1 [1, 2, 3])
 (.seq (.seq (.reg false r76_2 [1, 2, 3, 16])
 (.cond 16 (.seq (.reg false r76_3 [6])
 (.ret)) (.skip)))
 (.seq (.reg false r76_4 [1, 2, 3, 7])
 (.block 0 (.loop [1, 2, 3, 7] b76_1))))
def m76 : MFunc := ⟨3, [.tmp 6], c76⟩
def r77_1 : List MOper := [o1 3 (.box (.t 0)),
  o1 6 (.mov (.c (.fz .isnil 1 [])))]
def r77_2 : List MOper := [o1 7 (.ld true 2 (.t 3)),
  o1 8 (.call 35 [(.t 7)]),
  o1 9 (.bin .neq (.t 8) (.i 0)),
  o1 10 (.mov (.t 9)),
  o2 11 10 false (.mov (.t 1)),
  o2 12 10 false (.call 122 [(.t 11)]),
  o2 13 10 false (.not (.t 12)),
  o1 14 (.pick (.t 10) (.c (.bool true)) (.t 13))]
def r77_3 : List MOper := [o1 6 (.mov (.c (.fz .isnil 1 [])))]
def q77_4 : List MOper := [ox (some 15) none .R false (.ld true 2 (.t 3)),
  ox (some 16) none .R false (.ld true 2 (.t 3)),
  o1 17 (.mov (.t 1)),
  o1 18 (.bin .sub (.i 1) (.t 17)),
  ox (some 19) none .R false (.ld true 2 (.t 3)),
  o1 20 (.mov (.t 2)),
  ox (some 21) none .R false (.call 108 [(.t 19), (.t 20)]),
  ox (some 22) none .R false (.call 76 [(.t 16), (.t 18), (.t 21)]),
  ox (some 23) none .R false (.call 108 [(.t 15), (.t 22)]),
  o1 6 (.mov (.t 23))]
def r77_4 : List MOper := q77_4
def c77 : MCode := .seq (.reg false r77_1 [1, 2, 3])
 (.seq (.seq (.reg false r77_2 [1, 2, 3, 14])
 (.cond 14 (.seq (.reg false r77_3 [6])
 (.ret)) (.skip)))
 (.seq (.reg true r77_4 [6])
 (.ret)))
def m77 : MFunc := ⟨3, [.tmp 6], c77⟩
def r78_1 : List MOper := [o1 0 (.mov (.c (.bool false)))]
def r78_2 : List MOper := [o1 4 (.bsl false 1 [(.i 0), (.i 1)]),
  o1 5 (.bsl false 1 [(.i 0), (.i 1)]),
  o1 6 (.bsl false 1 [(.i 0)]),
  o1 7 (.bsl false 1 [(.t 5), (.t 6)]),
  o1 8 (.build [.fz .isnil 1 [], .fz .isnil 1 []] [] [(0, 1, (.t 4)), (1, 1, (.t 7))]),
  o1 1 (.alloc [.fz .isnil 1 [], .fz .isnil 1 []] []),
  n1 (.st 2 (.t 1) (.t 8))]
def r78_3 : List MOper := [o1 10 (.ld true 2 (.t 1)),
  o1 11 (.bsl false 1 [(.c (.bool false)), (.c (.bool true))]),
  o1 12 (.bsl false 1 [(.t 11)]),
  o1 13 (.call 79 [(.t 10), (.c (.fz .isnil 1 [])), (.t 12)]),
  o1 9 (.mov (.t 13)),
  o1 14 (.ext (.t 9) 0),
  o1 15 (.ext (.t 9) 1),
  o1 2 (.mov (.t 14)),
  o1 3 (.mov (.t 15))]
def r78_4 : List MOper := [o1 16 (.mov (.t 3)),
  o1 17 (.bin .eql (.t 16) (.i 0)),
  o1 18 (.mov (.t 17)),
  o2 19 18 true (.mov (.t 2)),
  o2 20 18 true (.len (.t 19)),
  o2 21 18 true (.bin .eql (.t 20) (.i 1)),
  o1 22 (.pick (.t 18) (.t 21) (.c (.bool false))),
  o1 23 (.mov (.t 22)),
  o2 24 23 true (.mov (.t 2)),
  o2 25 23 true (.ixs 4 (.t 24) (.i 0)),
  o2 26 23 true (.ld true 4 (.t 25)),
  o2 27 23 true (.build [.int .i64 0, .int .i64 0, .int .i64 0, .int .i64 0] [] [(0, 1, (.i 0)), (1, 1, (.i 0)), (2, 1, (.i 0)), (3, 1, (.i 0))]),
  o2 28 23 true (.aeq false 4 (.t 26) (.t 27)),
  o1 29 (.pick (.t 23) (.t 28) (.c (.bool false))),
  o1 30 (.mov (.t 29)),
  o2 31 30 true (.ld true 2 (.t 1)),
  o2 32 30 true (.bsl false 1 [(.c (.fz .isnil 1 []))]),
  o2 33 30 true (.call 85 [(.t 31), (.c (.fz .isnil 1 [])), (.t 32), (.i 0), (.i 0)]),
  o2 34 30 true (.bin .eql (.t 33) (.i 0)),
  o1 35 (.pick (.t 30) (.t 34) (.c (.bool false))),
  o1 0 (.mov (.t 35))]
def c78 : MCode := .seq (.reg false r78_1 [])
 (.seq (.reg false r78_2 [1])
 (.seq (.reg false r78_3 [1, 2, 3])
 (.seq (.reg false r78_4 [0])
 (.ret))))
def m78 : MFunc := ⟨3, [.tmp 0], c78⟩
def r79_1 : List MOper := [o1 3 (.box (.t 0)),
  o1 4 (.box (.t 1)),
  o1 5 (.box (.t 2)),
  o1 6 (.mov (.c (.fz .isnil 4 []))),
  o1 7 (.mov (.i 0))]
def r79_2 : List MOper := [o1 20 (.ld true 2 (.t 3)),
  o1 21 (.ld false 1 (.t 4)),
  o1 22 (.ld false 1 (.t 5)),
  o1 23 (.call 89 [(.t 20), (.t 21), (.t 22)]),
  o1 19 (.mov (.t 23)),
  o1 24 (.ext (.t 19) 0),
  o1 25 (.ext (.t 19) 1),
  o1 26 (.ext (.t 19) 2),
  o1 8 (.alloc [.fz .isnil 1 [], .fz .isnil 1 []] []),
  n1 (.st 2 (.t 8) (.t 24)),
  o1 9 (.mov (.t 25)),
  o1 10 (.mov (.t 26))]
def r79_3 : List MOper := [o1 27 (.mov (.t 10)),
  o1 28 (.bin .neq (.t 27) (.i 0))]
def r79_4 : List MOper := [o1 29 (.mov (.t 10)),
  o1 6 (.mov (.c (.fz .isnil 4 []))),
  o1 7 (.mov (.t 29))]
def r79_5 : List MOper := [o1 31 (.ld true 2 (.t 8)),
  o1 32 (.mov (.t 9)),
  o1 33 (.call 72 [(.t 31), (.t 32)]),
  o1 30 (.mov (.t 33)),
  o1 34 (.ext (.t 30) 0),
  o1 35 (.ext (.t 30) 1),
  o1 11 (.mov (.t 34)),
  o1 12 (.mov (.t 35))]
def r79_6 : List MOper := [o1 36 (.ld false 1 (.t 4)),
  o1 37 (.ld false 1 (.t 5)),
  o1 38 (.call 90 [(.t 36), (.t 37)]),
  o1 13 (.mov (.t 38))]
def r79_7 : List MOper := [o1 39 (.mkfn 137 [] [(.t 3), (.t 4), (.t 5)]),
  o1 14 (.mov (.t 39))]
def r79_8 : List MOper := [o1 15 (.tnil 4)]
def r79_9 : List MOper := [o1 40 (.fld 0 (.t 3)),
  o1 41 (.ld false 1 (.t 40)),
  o1 42 (.len (.t 41)),
  o1 43 (.mov (.i 0))]
def r79_10 : List MOper := [o1 44 (.bin .lss (.t 43) (.t 42))]
def r79_11 : List MOper := [o1 45 (.mov (.t 43)),
  o1 46 (.ixs 1 (.t 41) (.t 43)),
  o1 47 (.ld false 1 (.t 46)),
  o1 16 (.mov (.t 45)),
  o1 17 (.mov (.t 47))]
def r79_12 : List MOper := [o1 48 (.mov (.t 17)),
  o1 49 (.bin .neq (.t 48) (.i 0)),
  o1 50 (.mov (.t 49)),
  o2 51 50 false (.mov (.t 11)),
  o2 52 50 false (.mov (.t 16)),
  o2 53 50 false (.mov (.t 13)),
  o2 54 50 false (.bin .mul (.t 52) (.t 53)),
  o2 55 50 false (.ixs 1 (.t 51) (.t 54)),
  o2 56 50 false (.ld false 1 (.t 55)),
  o2 57 50 false (.bin .neq (.t 56) (.i 0)),
  o1 58 (.pick (.t 50) (.c (.bool true)) (.t 57))]
def r79_13 : List MOper := [o1 59 (.mov (.t 13)),
  o1 60 (.mov (.i 0))]
def r79_14 : List MOper := [o1 61 (.bin .lss (.t 60) (.t 59))]
def r79_15 : List MOper := [o1 62 (.mov (.t 60)),
  o1 18 (.mov (.t 62))]
def q79_16 : List MOper := [o1 63 (.mov (.t 15)),
  o1 64 (.mov (.t 16)),
  o1 65 (.mov (.t 18)),
  o1 66 (.mov (.t 12)),
  o1 67 (.mov (.t 16)),
  o1 68 (.mov (.t 13)),
  o1 69 (.bin .mul (.t 67) (.t 68)),
  o1 70 (.mov (.t 18)),
  o1 71 (.bin .add (.t 69) (.t 70)),
  o1 72 (.ixs 1 (.t 66) (.t 71)),
  ox (some 73) none .R false (.ld false 1 (.t 72)),
  o1 74 (.mov (.t 13)),
  o1 75 (.bin .quo (.t 73) (.t 74)),
  o1 76 (.mov (.t 14)),
  o1 77 (.mov (.t 16)),
  o1 78 (.mov (.t 18)),
  ox (some 79) none .R false (.callv (.t 76) [(.t 77), (.t 78)]),
  o1 80 (.build [.int .i64 0, .int .i64 0, .int .i64 0, .int .i64 0] [] [(0, 1, (.t 64)), (1, 1, (.t 65)), (2, 1, (.t 75)), (3, 1, (.t 79))]),
  o1 81 (.bsl false 4 [(.t 80)]),
  ox (some 82) none .L false (.app 4 (.t 63) (.t 81)),
  o1 15 (.mov (.t 82))]
def r79_16 : List MOper := q79_16
def r79_17 : List MOper := [o1 83 (.bin .add (.t 60) (.i 1)),
  o1 60 (.mov (.t 83))]
def b79_2 : MCode := .seq (.reg false r79_14 [11, 12, 13, 14, 15, 16, 41, 42, 43, 59, 60, 61])
 (.seq (.cond 61 (.skip) (.exit 2))
 (.seq (.block 3 (.seq (.reg false r79_15 [11, 12, 13, 14, 15, 16, 18, 41, 42, 43, 59, 60])
 (.reg true r79_16 [11, 12, 13, 14, 15, 16, 41, 42, 43, 59, 60])))
 (.reg false r79_17 [11, 12, 13, 14, 15, 16, 41, 42, 43, 59, 60])))
def r79_18 : List MOper := [o1 84 (.bin .add (.t 43) (.i 1)),
  o1 43 (.mov (.t 84))]
def b79_1 : MCode := .seq (.reg false r79_10 [11, 12, 13, 14, 15, 41, 42, 43, 44])
 (.seq (.cond 44 (.skip) (.exit 0))
 (.seq (.block 1 (.seq (.reg false r79_11 [11, 12, 13, 14, 15, 16, 17, 41, 42, 43])
 (.seq (.seq (.reg false r79_12 [11, 12, 13, 14, 15, 16, 41, 42, 43, 58])
 (.cond 58 (.exit 1) (.skip)))
 (.seq (.reg false r79_13 [11, 12, 13, 14, 15, 16, 41, 42, 43, 59, 60])
 (.block 2 (.loop [11, 12, 13, 14, 15, 16, 41, 42, 43, 59, 60] b79_2))))))
 (.reg false r79_18 [11, 12, 13, 14, 15, 41, 42, 43])))
def r79_19 : List MOper := [o1 85 (.mov (.t 15)),
  o1 6 (.mov (.t 85)),
  o1 7 (.mov (.i 0))]
def c79 : MCode := .seq (.reg false r79_1 [3, 4, 5])
 (.seq (.reg false r79_2 [3, 4, 5, 8, 9, 10])
 (.seq (.seq (.reg false r79_3 [3, 4, 5, 8, 9, 10, 28])
 (.cond 28 (.seq (.reg false r79_4 [6, 7])
 (.ret)) (.skip)))
 (.seq (.reg false r79_5 [3, 4, 5, 11, 12])
 (.seq (.reg false r79_6 [3, 4, 5, 11, 12, 13])
 (.seq (.reg false r79_7 [3, 11, 12, 13, 14])
 (.seq (.reg false r79_8 [3, 11, 12, 13, 14, 15])
 (.seq (.seq (.reg false r79_9 [11, 12, 13, 14, 15, 41, 42, 43])
 (.block 0 (.loop [11, 12, 13, 14, 15, 41, 42, 43] b79_1)))
 (.seq (.reg false r79_19 [6, 7])
 (.ret)))))))))
def m79 : MFunc := ⟨3, [.tmp 6, .tmp 7], c79⟩
def r80_1 : List MOper := [o1 3 (.box (.t 0)),
  o1 6 (.alloc [.fz .isnil 1 [], .fz .isnil 1 []] []),
  o1 7 (.mov (.c (.fz .isnil 1 []))),
  o1 8 (.mov (.i 0))]
def r80_2 : List MOper := [o1 20 (.ld true 2 (.t 3)),
  o1 21 (.call 35 [(.t 20)]),
  o1 9 (.mov (.t 21))]
def r80_3 : List MOper := [o1 22 (.mov (.t 9)),
  o1 23 (.bin .neq (.t 22) (.i 0))]
def r80_4 : List MOper := [o1 24 (.build [.fz .isnil 1 [], .fz .isnil 1 []] [] []),
  o1 25 (.mov (.t 9)),
  n1 (.st 2 (.t 6) (.t 24)),
  o1 7 (.mov (.c (.fz .isnil 1 []))),
  o1 8 (.mov (.t 25))]
def r80_5 : List MOper := [o1 26 (.mov (.t 1)),
  o1 27 (.mov (.t 2)),
  o1 28 (.call 81 [(.t 26), (.t 27)]),
  o1 10 (.mov (.t 28))]
def r80_6 : List MOper := [o1 29 (.mov (.t 10)),
  o1 30 (.bin .eql (.t 29) (.i 0)),
  o1 31 (.mov (.t 30)),
  o2 32 31 false (.mov (.t 10)),
  o2 33 31 false (.fld 0 (.t 3)),
  o2 34 31 false (.ld false 1 (.t 33)),
  o2 35 31 false (.len (.t 34)),
  o2 36 31 false (.bin .mul (.t 32) (.t 35)),
  o2 37 31 false (.bin .gtr (.t 36) (.i 3000)),
  o1 38 (.pick (.t 31) (.c (.bool true)) (.t 37))]
def r80_7 : List MOper := [o1 39 (.build [.fz .isnil 1 [], .fz .isnil 1 []] [] []),
  n1 (.st 2 (.t 6) (.t 39)),
  o1 7 (.mov (.c (.fz .isnil 1 []))),
  o1 8 (.mov (.i 7))]
def r80_8 : List MOper := [o1 11 (.alloc [.fz .isnil 1 [], .fz .isnil 1 []] [])]
def r80_9 : List MOper := [o1 12 (.tnil 1)]
def r80_10 : List MOper := [o1 40 (.fld 0 (.t 3)),
  o1 41 (.ld false 1 (.t 40)),
  o1 42 (.len (.t 41)),
  o1 43 (.mov (.i 0))]
def r80_11 : List MOper := [o1 44 (.bin .lss (.t 43) (.t 42))]
def r80_12 : List MOper := [o1 45 (.mov (.t 43)),
  o1 13 (.mov (.t 45))]
def r80_13 : List MOper := [o1 46 (.mov (.t 10)),
  o1 47 (.mov (.i 0))]
def r80_14 : List MOper := [o1 48 (.bin .lss (.t 47) (.t 46))]
def r80_15 : List MOper := [o1 49 (.mov (.t 47)),
  o1 14 (.mov (.t 49))]
def r80_16 : List MOper := [o1 51 (.mov (.t 1)),
  o1 52 (.mov (.t 2)),
  o1 53 (.mov (.t 13)),
  o1 54 (.mov (.t 14)),
  o1 55 (.call 138 [(.t 51), (.t 52), (.t 53), (.t 54)]),
  o1 50 (.mov (.t 55)),
  o1 56 (.ext (.t 50) 0),
  o1 57 (.ext (.t 50) 1),
  o1 15 (.mov (.t 56)),
  o1 16 (.mov (.t 57))]
def r80_17 : List MOper := [o1 17 (.tnil 1)]
def r80_18 : List MOper := [o1 58 (.fld 1 (.t 3)),
  o1 59 (.ld false 1 (.t 58)),
  o1 60 (.mov (.t 13)),
  o1 61 (.ixs 1 (.t 59) (.t 60)),
  o1 62 (.ld false 1 (.t 61)),
  o1 63 (.len (.t 62)),
  o1 64 (.mov (.i 0))]
def r80_19 : List MOper := [o1 65 (.bin .lss (.t 64) (.t 63))]
def r80_20 : List MOper := [o1 66 (.ixs 1 (.t 62) (.t 64)),
  o1 67 (.ld false 1 (.t 66)),
  o1 19 (.mov (.t 67))]
def r80_21 : List MOper := [o1 68 (.mov (.t 17)),
  o1 69 (.mov (.t 19)),
  o1 70 (.mov (.t 10)),
  o1 71 (.bin .mul (.t 69) (.t 70)),
  o1 72 (.mov (.t 15)),
  o1 73 (.bin .add (.t 71) (.t 72)),
  o1 74 (.bsl false 1 [(.t 73)]),
  o1 75 (.app 1 (.t 68) (.t 74)),
  o1 17 (.mov (.t 75))]
def r80_22 : List MOper := [o1 76 (.bin .add (.t 64) (.i 1)),
  o1 64 (.mov (.t 76))]
def b80_3 : MCode := .seq (.reg false r80_19 [1, 2, 3, 6, 10, 11, 12, 13, 15, 16, 17, 42, 43, 46, 47, 62, 63, 64, 65])
 (.seq (.cond 65 (.skip) (.exit 4))
 (.seq (.block 5 (.seq (.reg false r80_20 [1, 2, 3, 6, 10, 11, 12, 13, 15, 16, 17, 19, 42, 43, 46, 47, 62, 63, 64])
 (.reg false r80_21 [1, 2, 3, 6, 10, 11, 12, 13, 15, 16, 17, 42, 43, 46, 47, 62, 63, 64])))
 (.reg false r80_22 [1, 2, 3, 6, 10, 11, 12, 13, 15, 16, 17, 42, 43, 46, 47, 62, 63, 64])))
def q80_23 : List MOper := [o1 77 (.fld 0 (.t 11)),
  ox (some 78) none .R false (.ld false 1 (.t 77)),
  o1 79 (.fld 0 (.t 3)),
  ox (some 80) none .R false (.ld false 1 (.t 79)),
  o1 81 (.mov (.t 13)),
  o1 82 (.ixs 1 (.t 80) (.t 81)),
  ox (some 83) none .R false (.ld false 1 (.t 82)),
  o1 84 (.bsl false 1 [(.t 83)]),
  ox (some 85) none .L false (.app 1 (.t 78) (.t 84)),
  o1 86 (.fld 0 (.t 11)),
  ox none none .L false (.st 1 (.t 86) (.t 85))]
def r80_23 : List MOper := q80_23
def r80_24 : List MOper := [o1 87 (.fld 1 (.t 11)),
  o1 88 (.ld false 1 (.t 87)),
  o1 89 (.mov (.t 17)),
  o1 90 (.bsl false 1 [(.t 89)]),
  o1 91 (.app 1 (.t 88) (.t 90)),
  o1 92 (.fld 1 (.t 11)),
  n1 (.st 1 (.t 92) (.t 91))]
def r80_25 : List MOper := [o1 93 (.mov (.t 12)),
  o1 94 (.mov (.t 16)),
  o1 95 (.bsl false 1 [(.t 94)]),
  o1 96 (.app 1 (.t 93) (.t 95)),
  o1 12 (.mov (.t 96))]
def r80_26 : List MOper := [o1 97 (.bin .add (.t 47) (.i 1)),
  o1 47 (.mov (.t 97))]
def b80_2 : MCode := .seq (.reg false r80_14 [1, 2, 3, 6, 10, 11, 12, 13, 42, 43, 46, 47, 48])
 (.seq (.cond 48 (.skip) (.exit 2))
 (.seq (.block 3 (.seq (.reg false r80_15 [1, 2, 3, 6, 10, 11, 12, 13, 14, 42, 43, 46, 47])
 (.seq (.reg false r80_16 [1, 2, 3, 6, 10, 11, 12, 13, 15, 16, 42, 43, 46, 47])
 (.seq (.reg false r80_17 [1, 2, 3, 6, 10, 11, 12, 13, 15, 16, 17, 42, 43, 46, 47])
 (.seq (.seq (.reg false r80_18 [1, 2, 3, 6, 10, 11, 12, 13, 15, 16, 17, 42, 43, 46, 47, 62, 63, 64])
 (.block 4 (.loop [1, 2, 3, 6, 10, 11, 12, 13, 15, 16, 17, 42, 43, 46, 47, 62, 63, 64] b80_3)))
 (.seq (.reg true r80_23 [1, 2, 3, 6, 10, 11, 12, 13, 16, 17, 42, 43, 46, 47])
 (.seq (.reg false r80_24 [1, 2, 3, 6, 10, 11, 12, 13, 16, 42, 43, 46, 47])
 (.reg false r80_25 [1, 2, 3, 6, 10, 11, 12, 13, 42, 43, 46, 47]))))))))
 (.reg false r80_26 [1, 2, 3, 6, 10, 11, 12, 13, 42, 43, 46, 47])))
def r80_27 : List MOper := [o1 98 (.bin .add (.t 43) (.i 1)),
  o1 43 (.mov (.t 98))]
def b80_1 : MCode := .seq (.reg false r80_11 [1, 2, 3, 6, 10, 11, 12, 42, 43, 44])
 (.seq (.cond 44 (.skip) (.exit 0))
 (.seq (.block 1 (.seq (.reg false r80_12 [1, 2, 3, 6, 10, 11, 12, 13, 42, 43])
 (.seq (.reg false r80_13 [1, 2, 3, 6, 10, 11, 12, 13, 42, 43, 46, 47])
 (.block 2 (.loop [1, 2, 3, 6, 10, 11, 12, 13, 42, 43, 46, 47] b80_2)))))
 (.reg false r80_27 [1, 2, 3, 6, 10, 11, 12, 42, 43])))
def r80_28 : List MOper := [o1 99 (.ld true 2 (.t 11)),
  o1 100 (.mov (.t 12)),
  n1 (.st 2 (.t 6) (.t 99)),
  o1 7 (.mov (.t 100)),
  o1 8 (.mov (.i 0))]
def c80 : MCode := .seq (.reg false r80_1 [1, 2, 3, 6])
 (.seq (.seq (.reg false r80_2 [1, 2, 3, 6, 9])
 (.seq (.reg false r80_3 [1, 2, 3, 6, 9, 23])
 (.cond 23 (.seq (.reg false r80_4 [6, 7, 8])
 (.ret)) (.skip))))
 (.seq (.reg false r80_5 [1, 2, 3, 6, 10])
 (.seq (.seq (.reg false r80_6 [1, 2, 3, 6, 10, 38])
 (.cond 38 (.seq (.reg false r80_7 [6, 7, 8])
 (.ret)) (.skip)))
 (.seq (.reg false r80_8 [1, 2, 3, 6, 10, 11])
 (.seq (.reg false r80_9 [1, 2, 3, 6, 10, 11, 12])
 (.seq (.seq (.reg false r80_10 [1, 2, 3, 6, 10, 11, 12, 42, 43])
 (.block 0 (.loop [1, 2, 3, 6, 10, 11, 12, 42, 43] b80_1)))
 (.seq (.reg false r80_28 [6, 7, 8])
 (.ret))))))))
def m80 : MFunc := ⟨3, [.cell 6 true 2, .tmp 7, .tmp 8], c80⟩
def r81_1 : List MOper := [o1 4 (.mov (.i 0))]
def r81_2 : List MOper := [o1 5 (.mov (.t 0)),
  o1 6 (.len (.t 5)),
  o1 7 (.bin .gtr (.t 6) (.i 4)),
  o1 8 (.mov (.t 7)),
  o2 9 8 false (.mov (.t 1)),
  o2 10 8 false (.len (.t 9)),
  o2 11 8 false (.bin .gtr (.t 10) (.i 4)),
  o1 12 (.pick (.t 8) (.c (.bool true)) (.t 11))]
def r81_3 : List MOper := [o1 4 (.mov (.i 0))]
def r81_4 : List MOper := [o1 13 (.mov (.t 0)),
  o1 14 (.len (.t 13)),
  o1 15 (.mx [(.i 1), (.t 14)]),
  o1 16 (.mov (.t 1)),
  o1 17 (.len (.t 16)),
  o1 18 (.mx [(.i 1), (.t 17)]),
  o1 19 (.bin .mul (.t 15) (.t 18)),
  o1 4 (.mov (.t 19))]
def c81 : MCode := .seq (.reg false r81_1 [0, 1])
 (.seq (.seq (.reg false r81_2 [0, 1, 12])
 (.cond 12 (.seq (.reg false r81_3 [4])
 (.ret)) (.skip)))
 (.seq (.reg false r81_4 [4])
 (.ret)))
def m81 : MFunc := ⟨3, [.tmp 4], c81⟩
def r82_1 : List MOper := [o1 6 (.mov (.c (.fz .isnil 1 [])))]
def r82_2 : List MOper := [o1 9 (.mov (.t 1)),
  o1 10 (.mov (.t 2)),
  o1 11 (.bin .mul (.t 9) (.t 10)),
  o1 12 (.mksl 1 (.bool false) (.t 11)),
  o1 7 (.mov (.t 12))]
def r82_3 : List MOper := [o1 13 (.mov (.t 7)),
  o1 14 (.len (.t 13)),
  o1 15 (.mov (.i 0))]
def r82_4 : List MOper := [o1 16 (.bin .lss (.t 15) (.t 14))]
def r82_5 : List MOper := [o1 17 (.mov (.t 15)),
  o1 8 (.mov (.t 17))]
def r82_6 : List MOper := [o1 18 (.mov (.t 7)),
  o1 19 (.mov (.t 8)),
  o1 20 (.mov (.t 8)),
  o1 21 (.mov (.t 2)),
  o1 22 (.bin .quo (.t 20) (.t 21)),
  o1 23 (.mov (.t 0)),
  o1 24 (.len (.t 23)),
  o1 25 (.bin .lss (.t 22) (.t 24)),
  o1 26 (.mov (.t 25)),
  o2 27 26 true (.mov (.t 0)),
  o2 28 26 true (.mov (.t 8)),
  o2 29 26 true (.mov (.t 2)),
  o2 30 26 true (.bin .quo (.t 28) (.t 29)),
  o2 31 26 true (.ixs 1 (.t 27) (.t 30)),
  o2 32 26 true (.ld false 1 (.t 31)),
  o1 33 (.pick (.t 26) (.t 32) (.c (.bool false))),
  o1 34 (.ixs 1 (.t 18) (.t 19)),
  n1 (.st 1 (.t 34) (.t 33))]
def r82_7 : List MOper := [o1 35 (.bin .add (.t 15) (.i 1)),
  o1 15 (.mov (.t 35))]
def b82_1 : MCode := .seq (.reg false r82_4 [0, 2, 7, 14, 15, 16])
 (.seq (.cond 16 (.skip) (.exit 0))
 (.seq (.block 1 (.seq (.reg false r82_5 [0, 2, 7, 8, 14, 15])
 (.reg false r82_6 [0, 2, 7, 14, 15])))
 (.reg false r82_7 [0, 2, 7, 14, 15])))
def r82_8 : List MOper := [o1 36 (.mov (.t 7)),
  o1 6 (.mov (.t 36))]
def c82 : MCode := .seq (.reg false r82_1 [0, 1, 2])
 (.seq (.reg false r82_2 [0, 2, 7])
 (.seq (.seq (.reg false r82_3 [0, 2, 7, 14, 15])
 (.block 0 (.loop [0, 2, 7, 14, 15] b82_1)))
 (.seq (.reg false r82_8 [6])
 (.ret))))
def m82 : MFunc := ⟨3, [.tmp 6], c82⟩
def r83_1 : List MOper := [o1 2 (.mov (.c (.fz .isnil 1 [])))]
def r83_2 : List MOper := [o1 5 (.mov (.t 0)),
  o1 6 (.mksl 1 (.bool false) (.t 5)),
  o1 3 (.mov (.t 6))]
def r83_3 : List MOper := [o1 7 (.mov (.t 3)),
  o1 8 (.len (.t 7)),
  o1 9 (.mov (.i 0))]
def r83_4 : List MOper := [o1 10 (.bin .lss (.t 9) (.t 8))]
def r83_5 : List MOper := [o1 11 (.mov (.t 9)),
  o1 4 (.mov (.t 11))]
def r83_6 : List MOper := [o1 12 (.mov (.t 3)),
  o1 13 (.mov (.t 4)),
  o1 14 (.ixs 1 (.t 12) (.t 13)),
  n1 (.st 1 (.t 14) (.c (.bool true)))]
def r83_7 : List MOper := [o1 15 (.bin .add (.t 9) (.i 1)),
  o1 9 (.mov (.t 15))]
def b83_1 : MCode := .seq (.reg false r83_4 [3, 8, 9, 10])
 (.seq (.cond 10 (.skip) (.exit 0))
 (.seq (.block 1 (.seq (.reg false r83_5 [3, 4, 8, 9])
 (.reg false r83_6 [3, 8, 9])))
 (.reg false r83_7 [3, 8, 9])))
def r83_8 : List MOper := [o1 16 (.mov (.t 3)),
  o1 2 (.mov (.t 16))]
def c83 : MCode := .seq (.reg false r83_1 [0])
 (.seq (.reg false r83_2 [3])
 (.seq (.seq (.reg false r83_3 [3, 8, 9])
 (.block 0 (.loop [3, 8, 9] b83_1)))
 (.seq (.reg false r83_8 [2])
 (.ret))))
def m83 : MFunc := ⟨3, [.tmp 2], c83⟩
def r84_1 : List MOper := [o1 5 (.box (.t 0)),
  o1 10 (.mov (.i 0))]
def r84_2 : List MOper := [o1 13 (.ld true 2 (.t 5)),
  o1 14 (.call 35 [(.t 13)]),
  o1 15 (.bin .neq (.t 14) (.i 0)),
  o1 16 (.mov (.t 15)),
  o2 17 16 false (.mov (.t 1)),
  o2 18 16 false (.mov (.t 2)),
  o2 19 16 false (.mov (.t 3)),
  o2 20 16 false (.mov (.t 4)),
  o2 21 16 false (.call 139 [(.t 17), (.t 18), (.t 19), (.t 20)]),
  o2 22 16 false (.bin .lss (.t 21) (.i 0)),
  o1 23 (.pick (.t 16) (.c (.bool true)) (.t 22)),
  o1 24 (.mov (.t 23)),
  o2 25 24 false (.mov (.t 3)),
  o2 26 24 false (.fld 0 (.t 5)),
  o2 27 24 false (.ld false 1 (.t 26)),
  o2 28 24 false (.len (.t 27)),
  o2 29 24 false (.bin .geq (.t 25) (.t 28)),
  o1 30 (.pick (.t 24) (.c (.bool true)) (.t 29))]
def r84_3 : List MOper := [o1 10 (.mov (.i (-1)))]
def r84_4 : List MOper := [o1 32 (.mov (.t 1)),
  o1 33 (.mov (.t 2)),
  o1 34 (.mov (.t 3)),
  o1 35 (.mov (.t 4)),
  o1 36 (.call 138 [(.t 32), (.t 33), (.t 34), (.t 35)]),
  o1 31 (.mov (.t 36)),
  o1 37 (.ext (.t 31) 0),
  o1 38 (.ext (.t 31) 1),
  o1 11 (.mov (.t 37)),
  o1 12 (.mov (.t 38))]
def r84_5 : List MOper := [o1 39 (.mov (.t 11)),
  o1 10 (.mov (.t 39))]
def c84 : MCode := .seq (.reg false r84_1 [1, 2, 3, 4, 5])
 (.seq (.seq (.reg false r84_2 [1, 2, 3, 4, 30])
 (.cond 30 (.seq (.reg false r84_3 [10])
 (.ret)) (.skip)))
 (.seq (.reg false r84_4 [11])
 (.seq (.reg false r84_5 [10])
 (.ret))))
def m84 : MFunc := ⟨3, [.tmp 10], c84⟩
def r85_1 : List MOper := [o1 5 (.box (.t 0)),
  o1 10 (.mov (.i 0))]
def r85_2 : List MOper := [o1 12 (.ld true 2 (.t 5)),
  o1 13 (.call 69 [(.t 12)]),
  o1 14 (.bin .neq (.t 13) (.i 0)),
  o1 15 (.mov (.t 14)),
  o2 16 15 false (.mov (.t 1)),
  o2 17 15 false (.mov (.t 2)),
  o2 18 15 false (.mov (.t 3)),
  o2 19 15 false (.mov (.t 4)),
  o2 20 15 false (.call 140 [(.t 16), (.t 17), (.t 18), (.t 19)]),
  o2 21 15 false (.bin .lss (.t 20) (.i 0)),
  o1 22 (.pick (.t 15) (.c (.bool true)) (.t 21)),
  o1 23 (.mov (.t 22)),
  o2 24 23 false (.mov (.t 3)),
  o2 25 23 false (.fld 0 (.t 5)),
  o2 26 23 false (.ld false 1 (.t 25)),
  o2 27 23 false (.len (.t 26)),
  o2 28 23 false (.bin .geq (.t 24) (.t 27)),
  o1 29 (.pick (.t 23) (.c (.bool true)) (.t 28))]
def r85_3 : List MOper := [o1 10 (.mov (.i (-1)))]
def r85_4 : List MOper := [o1 30 (.mov (.t 2)),
  o1 31 (.len (.t 30)),
  o1 32 (.mx [(.i 1), (.t 31)]),
  o1 11 (.mov (.t 32))]
def q85_5 : List MOper := [o1 33 (.mov (.t 1)),
  o1 34 (.mov (.t 4)),
  o1 35 (.mov (.t 11)),
  o1 36 (.bin .quo (.t 34) (.t 35)),
  o1 37 (.mov (.t 3)),
  ox (some 38) none .R false (.call 141 [(.t 33), (.t 36), (.t 37)]),
  o1 39 (.mov (.t 11)),
  o1 40 (.bin .mul (.t 38) (.t 39)),
  o1 41 (.mov (.t 2)),
  o1 42 (.mov (.t 4)),
  o1 43 (.mov (.t 11)),
  o1 44 (.bin .rem (.t 42) (.t 43)),
  o1 45 (.mov (.t 3)),
  ox (some 46) none .R false (.call 141 [(.t 41), (.t 44), (.t 45)]),
  o1 47 (.bin .add (.t 40) (.t 46)),
  o1 10 (.mov (.t 47))]
def r85_5 : List MOper := q85_5
def c85 : MCode := .seq (.reg false r85_1 [1, 2, 3, 4, 5])
 (.seq (.seq (.reg false r85_2 [1, 2, 3, 4, 29])
 (.cond 29 (.seq (.reg false r85_3 [10])
 (.ret)) (.skip)))
 (.seq (.reg false r85_4 [1, 2, 3, 4, 11])
 (.seq (.reg true r85_5 [10])
 (.ret))))
def m85 : MFunc := ⟨3, [.tmp 10], c85⟩
def r86_1 : List MOper := [o1 8 (.mov (.c (.bool false)))]
def r86_2 : List MOper := [o1 11 (.mov (.t 0)),
  o1 12 (.call 114 [(.t 11)]),
  o1 13 (.not (.t 12)),
  o1 14 (.mov (.t 13)),
  o2 15 14 false (.mov (.t 0)),
  o2 16 14 false (.mov (.t 1)),
  o2 17 14 false (.mov (.t 0)),
  o2 18 14 false (.call 142 [(.t 17)]),
  o2 19 14 false (.mov (.t 3)),
  o2 20 14 false (.call 115 [(.t 15), (.t 16), (.t 18), (.t 19)]),
  o1 21 (.pick (.t 14) (.c (.bool true)) (.t 20))]
def r86_3 : List MOper := [o1 8 (.mov (.c (.bool false)))]
def r86_4 : List MOper := [o1 22 (.mov (.t 2)),
  o1 23 (.len (.t 22)),
  o1 24 (.mov (.i 0))]
def r86_5 : List MOper := [o1 25 (.bin .lss (.t 24) (.t 23))]
def r86_6 : List MOper := [o1 26 (.ixs 1 (.t 22) (.t 24)),
  o1 27 (.ld false 1 (.t 26)),
  o1 10 (.mov (.t 27))]
def r86_7 : List MOper := [o1 28 (.mov (.t 0)),
  o1 29 (.mov (.t 1)),
  o1 30 (.mov (.t 0)),
  o1 31 (.mov (.t 10)),
  o1 32 (.call 116 [(.t 30), (.t 31)]),
  o1 33 (.call 115 [(.t 28), (.t 29), (.t 32), (.c (.fz .isnil 1 []))])]
def r86_8 : List MOper := [o1 8 (.mov (.c (.bool false)))]
def r86_9 : List MOper := [o1 34 (.bin .add (.t 24) (.i 1)),
  o1 24 (.mov (.t 34))]
def b86_1 : MCode := .seq (.reg false r86_5 [0, 1, 22, 23, 24, 25])
 (.seq (.cond 25 (.skip) (.exit 0))
 (.seq (.block 1 (.seq (.reg false r86_6 [0, 1, 10, 22, 23, 24])
 (.seq (.reg false r86_7 [0, 1, 22, 23, 24, 33])
 (.cond 33 (.seq (.reg false r86_8 [8])
 (.ret)) (.skip)))))
 (.reg false r86_9 [0, 1, 22, 23, 24])))
def r86_10 : List MOper := [o1 8 (.mov (.c (.bool true)))]
def c86 : MCode := .seq (.reg false r86_1 [0, 1, 2, 3])
 (.seq (.seq (.reg false r86_2 [0, 1, 2, 21])
 (.cond 21 (.seq (.reg false r86_3 [8])
 (.ret)) (.skip)))
 (.seq (.seq (.reg false r86_4 [0, 1, 22, 23, 24])
 (.block 0 (.loop [0, 1, 22, 23, 24] b86_1)))
 (.seq (.reg false r86_10 [8])
 (.ret))))
def m86 : MFunc := ⟨3, [.tmp 8], c86⟩
def r87_1 : List MOper := [o1 4 (.mov (.c (.bool false)))]
def r87_2 : List MOper := [o1 10 (.mov (.t 0)),
  o1 11 (.len (.t 10)),
  o1 12 (.mov (.i 0))]
def r87_3 : List MOper := [o1 13 (.bin .lss (.t 12) (.t 11))]
def r87_4 : List MOper := [o1 14 (.ixs 1 (.t 10) (.t 12)),
  o1 15 (.ld false 1 (.t 14)),
  o1 6 (.mov (.t 15))]
def r87_5 : List MOper := [o1 7 (.mov (.c (.bool false)))]
def r87_6 : List MOper := [o1 16 (.mov (.t 1)),
  o1 17 (.len (.t 16)),
  o1 18 (.mov (.i 0))]
def r87_7 : List MOper := [o1 19 (.bin .lss (.t 18) (.t 17))]
def r87_8 : List MOper := [o1 20 (.ixs 1 (.t 16) (.t 18)),
  o1 21 (.ld false 1 (.t 20)),
  o1 9 (.mov (.t 21))]
def r87_9 : List MOper := [o1 22 (.mov (.t 7)),
  o1 23 (.mov (.t 22)),
  o2 24 23 false (.mov (.t 6)),
  o2 25 23 false (.mov (.t 9)),
  o2 26 23 false (.call 48 [(.t 24), (.t 25)]),
  o1 27 (.pick (.t 23) (.c (.bool true)) (.t 26)),
  o1 7 (.mov (.t 27))]
def r87_10 : List MOper := [o1 28 (.bin .add (.t 18) (.i 1)),
  o1 18 (.mov (.t 28))]
def b87_2 : MCode := .seq (.reg false r87_7 [1, 6, 7, 10, 11, 12, 16, 17, 18, 19])
 (.seq (.cond 19 (.skip) (.exit 2))
 (.seq (.block 3 (.seq (.reg false r87_8 [1, 6, 7, 9, 10, 11, 12, 16, 17, 18])
 (.reg false r87_9 [1, 6, 7, 10, 11, 12, 16, 17, 18])))
 (.reg false r87_10 [1, 6, 7, 10, 11, 12, 16, 17, 18])))
def r87_11 : List MOper := [o1 29 (.mov (.t 7)),
  o1 30 (.not (.t 29))]
def r87_12 : List MOper := [o1 4 (.mov (.c (.bool false)))]
def r87_13 : List MOper := [o1 31 (.bin .add (.t 12) (.i 1)),
  o1 12 (.mov (.t 31))]
def b87_1 : MCode := .seq (.reg false r87_3 [1, 10, 11, 12, 13])
 (.seq (.cond 13 (.skip) (.exit 0))
 (.seq (.block 1 (.seq (.reg false r87_4 [1, 6, 10, 11, 12])
 (.seq (.reg false r87_5 [1, 6, 7, 10, 11, 12])
 (.seq (.seq (.reg false r87_6 [1, 6, 7, 10, 11, 12, 16, 17, 18])
 (.block 2 (.loop [1, 6, 7, 10, 11, 12, 16, 17, 18] b87_2)))
 (.seq (.reg false r87_11 [1, 10, 11, 12, 30])
 (.cond 30 (.seq (.reg false r87_12 [4])
 (.ret)) (.skip)))))))
 (.reg false r87_13 [1, 10, 11, 12])))
def r87_14 : List MOper := [o1 4 (.mov (.c (.bool true)))]
def c87 : MCode := .seq (.reg false r87_1 [0, 1])
 (.seq (.seq (.reg false r87_2 [1, 10, 11, 12])
 (.block 0 (.loop [1, 10, 11, 12] b87_1)))
 (.seq (.reg false r87_14 [4])
 (.ret)))
def m87 : MFunc := ⟨3, [.tmp 4], c87⟩
def r88_1 : List MOper := [o1 0 (.mov (.c (.bool false)))]
def r88_2 : List MOper := [o1 5 (.bsl false 1 [(.i 1)]),
  o1 6 (.bsl false 1 [(.i 0)]),
  o1 7 (.bsl false 1 [(.t 6)]),
  o1 8 (.build [.fz .isnil 1 [], .fz .isnil 1 []] [] [(0, 1, (.t 5)), (1, 1, (.t 7))]),
  o1 1 (.alloc [.fz .isnil 1 [], .fz .isnil 1 []] []),
  n1 (.st 2 (.t 1) (.t 8))]
def r88_3 : List MOper := [o1 10 (.ld true 2 (.t 1)),
  o1 11 (.bsl false 1 [(.c (.bool true))]),
  o1 12 (.bsl false 1 [(.c (.bool true))]),
  o1 13 (.bsl false 1 [(.t 11), (.t 12)]),
  o1 14 (.call 89 [(.t 10), (.c (.fz .isnil 1 [])), (.t 13)]),
  o1 9 (.mov (.t 14)),
  o1 15 (.ext (.t 9) 0),
  o1 16 (.ext (.t 9) 1),
  o1 17 (.ext (.t 9) 2),
  o1 2 (.alloc [.fz .isnil 1 [], .fz .isnil 1 []] []),
  n1 (.st 2 (.t 2) (.t 15)),
  o1 3 (.mov (.t 16)),
  o1 4 (.mov (.t 17))]
def r88_4 : List MOper := [o1 18 (.mov (.t 4)),
  o1 19 (.bin .eql (.t 18) (.i 0)),
  o1 20 (.mov (.t 19)),
  o2 21 20 true (.fld 0 (.t 2)),
  o2 22 20 true (.ld false 1 (.t 21)),
  o2 23 20 true (.len (.t 22)),
  o2 24 20 true (.bin .eql (.t 23) (.i 2)),
  o1 25 (.pick (.t 20) (.t 24) (.c (.bool false))),
  o1 26 (.mov (.t 25)),
  o2 27 26 true (.fld 1 (.t 2)),
  o2 28 26 true (.ld false 1 (.t 27)),
  o2 29 26 true (.len (.t 28)),
  o2 30 26 true (.bin .eql (.t 29) (.i 2)),
  o1 31 (.pick (.t 26) (.t 30) (.c (.bool false))),
  o1 32 (.mov (.t 31)),
  o2 33 32 true (.fld 1 (.t 2)),
  o2 34 32 true (.ld false 1 (.t 33)),
  o2 35 32 true (.ixs 1 (.t 34) (.i 0)),
  o2 36 32 true (.ld false 1 (.t 35)),
  o2 37 32 true (.len (.t 36)),
  o2 38 32 true (.bin .eql (.t 37) (.i 1)),
  o1 39 (.pick (.t 32) (.t 38) (.c (.bool false))),
  o1 40 (.mov (.t 39)),
  o2 41 40 true (.fld 1 (.t 2)),
  o2 42 40 true (.ld false 1 (.t 41)),
  o2 43 40 true (.ixs 1 (.t 42) (.i 0)),
  o2 44 40 true (.ld false 1 (.t 43)),
  o2 45 40 true (.ixs 1 (.t 44) (.i 0)),
  o2 46 40 true (.ld false 1 (.t 45)),
  o2 47 40 true (.bin .eql (.t 46) (.i 1)),
  o1 48 (.pick (.t 40) (.t 47) (.c (.bool false))),
  o1 49 (.mov (.t 48)),
  o2 50 49 true (.mov (.t 3)),
  o2 51 49 true (.len (.t 50)),
  o2 52 49 true (.bin .eql (.t 51) (.i 2)),
  o1 53 (.pick (.t 49) (.t 52) (.c (.bool false))),
  o1 54 (.mov (.t 53)),
  o2 55 54 true (.mov (.t 3)),
  o2 56 54 true (.ixs 1 (.t 55) (.i 0)),
  o2 57 54 true (.ld false 1 (.t 56)),
  o2 58 54 true (.bin .eql (.t 57) (.i 1)),
  o1 59 (.pick (.t 54) (.t 58) (.c (.bool false))),
  o1 60 (.mov (.t 59)),
  o2 61 60 true (.mov (.t 3)),
  o2 62 60 true (.ixs 1 (.t 61) (.i 1)),
  o2 63 60 true (.ld false 1 (.t 62)),
  o2 64 60 true (.bin .eql (.t 63) (.i 2)),
  o1 65 (.pick (.t 60) (.t 64) (.c (.bool false))),
  o1 66 (.mov (.t 65)),
  o2 67 66 true (.call 90 [(.c (.fz .isnil 1 [])), (.c (.fz .isnil 1 []))]),
  o2 68 66 true (.bin .eql (.t 67) (.i 1)),
  o1 69 (.pick (.t 66) (.t 68) (.c (.bool false))),
  o1 0 (.mov (.t 69))]
def c88 : MCode := .seq (.reg false r88_1 [])
 (.seq (.reg false r88_2 [1])
 (.seq (.reg false r88_3 [2, 3, 4])
 (.seq (.reg false r88_4 [0])
 (.ret))))
def m88 : MFunc := ⟨3, [.tmp 0], c88⟩
def r89_1 : List MOper := [o1 3 (.box (.t 0)),
  o1 6 (.alloc [.fz .isnil 1 [], .fz .isnil 1 []] []),
  o1 7 (.mov (.c (.fz .isnil 1 []))),
  o1 8 (.mov (.i 0))]
def r89_2 : List MOper := [o1 21 (.ld true 2 (.t 3)),
  o1 22 (.call 69 [(.t 21)]),
  o1 9 (.mov (.t 22))]
def r89_3 : List MOper := [o1 23 (.mov (.t 9)),
  o1 24 (.bin .neq (.t 23) (.i 0))]
def r89_4 : List MOper := [o1 25 (.build [.fz .isnil 1 [], .fz .isnil 1 []] [] []),
  o1 26 (.mov (.t 9)),
  n1 (.st 2 (.t 6) (.t 25)),
  o1 7 (.mov (.c (.fz .isnil 1 []))),
  o1 8 (.mov (.t 26))]
def r89_5 : List MOper := [o1 27 (.mov (.t 1)),
  o1 28 (.mov (.t 2)),
  o1 29 (.call 90 [(.t 27), (.t 28)]),
  o1 10 (.mov (.t 29))]
def r89_6 : List MOper := [o1 30 (.mov (.t 10)),
  o1 31 (.bin .eql (.t 30) (.i 0)),
  o1 32 (.mov (.t 31)),
  o2 33 32 false (.mov (.t 10)),
  o2 34 32 false (.fld 0 (.t 3)),
  o2 35 32 false (.ld false 1 (.t 34)),
  o2 36 32 false (.len (.t 35)),
  o2 37 32 false (.bin .mul (.t 33) (.t 36)),
  o2 38 32 false (.bin .gtr (.t 37) (.i 3000)),
  o1 39 (.pick (.t 32) (.c (.bool true)) (.t 38))]
def r89_7 : List MOper := [o1 40 (.build [.fz .isnil 1 [], .fz .isnil 1 []] [] []),
  n1 (.st 2 (.t 6) (.t 40)),
  o1 7 (.mov (.c (.fz .isnil 1 []))),
  o1 8 (.mov (.i 7))]
def r89_8 : List MOper := [o1 11 (.alloc [.fz .isnil 1 [], .fz .isnil 1 []] [])]
def r89_9 : List MOper := [o1 12 (.tnil 1)]
def r89_10 : List MOper := [o1 41 (.fld 0 (.t 3)),
  o1 42 (.ld false 1 (.t 41)),
  o1 43 (.len (.t 42)),
  o1 44 (.mov (.i 0))]
def r89_11 : List MOper := [o1 45 (.bin .lss (.t 44) (.t 43))]
def r89_12 : List MOper := [o1 46 (.mov (.t 44)),
  o1 47 (.ixs 1 (.t 42) (.t 44)),
  o1 48 (.ld false 1 (.t 47)),
  o1 13 (.mov (.t 46)),
  o1 14 (.mov (.t 48))]
def r89_13 : List MOper := [o1 49 (.mov (.t 10)),
  o1 50 (.mov (.i 0))]
def r89_14 : List MOper := [o1 51 (.bin .lss (.t 50) (.t 49))]
def r89_15 : List MOper := [o1 52 (.mov (.t 50)),
  o1 15 (.mov (.t 52))]
def r89_16 : List MOper := [o1 54 (.mov (.t 1)),
  o1 55 (.mov (.t 2)),
  o1 56 (.mov (.t 13)),
  o1 57 (.mov (.t 15)),
  o1 58 (.call 143 [(.t 54), (.t 55), (.t 56), (.t 57)]),
  o1 53 (.mov (.t 58)),
  o1 59 (.ext (.t 53) 0),
  o1 60 (.ext (.t 53) 1),
  o1 16 (.mov (.t 59)),
  o1 17 (.mov (.t 60))]
def r89_17 : List MOper := [o1 18 (.tnil 1)]
def r89_18 : List MOper := [o1 61 (.fld 1 (.t 3)),
  o1 62 (.ld false 1 (.t 61)),
  o1 63 (.mov (.t 13)),
  o1 64 (.ixs 1 (.t 62) (.t 63)),
  o1 65 (.ld false 1 (.t 64)),
  o1 66 (.len (.t 65)),
  o1 67 (.mov (.i 0))]
def r89_19 : List MOper := [o1 68 (.bin .lss (.t 67) (.t 66))]
def r89_20 : List MOper := [o1 69 (.ixs 1 (.t 65) (.t 67)),
  o1 70 (.ld false 1 (.t 69)),
  o1 20 (.mov (.t 70))]
def r89_21 : List MOper := [o1 71 (.mov (.t 18)),
  o1 72 (.mov (.t 20)),
  o1 73 (.mov (.t 10)),
  o1 74 (.bin .mul (.t 72) (.t 73)),
  o1 75 (.mov (.t 16)),
  o1 76 (.bin .add (.t 74) (.t 75)),
  o1 77 (.bsl false 1 [(.t 76)]),
  o1 78 (.app 1 (.t 71) (.t 77)),
  o1 18 (.mov (.t 78))]
def r89_22 : List MOper := [o1 79 (.bin .add (.t 67) (.i 1)),
  o1 67 (.mov (.t 79))]
def b89_3 : MCode := .seq (.reg false r89_19 [1, 2, 3, 6, 10, 11, 12, 13, 14, 16, 17, 18, 42, 43, 44, 49, 50, 65, 66, 67, 68])
 (.seq (.cond 68 (.skip) (.exit 4))
 (.seq (.block 5 (.seq (.reg false r89_20 [1, 2, 3, 6, 10, 11, 12, 13, 14, 16, 17, 18, 20, 42, 43, 44, 49, 50, 65, 66, 67])
 (.reg false r89_21 [1, 2, 3, 6, 10, 11, 12, 13, 14, 16, 17, 18, 42, 43, 44, 49, 50, 65, 66, 67])))
 (.reg false r89_22 [1, 2, 3, 6, 10, 11, 12, 13, 14, 16, 17, 18, 42, 43, 44, 49, 50, 65, 66, 67])))
def r89_23 : List MOper := [o1 80 (.fld 0 (.t 11)),
  o1 81 (.ld false 1 (.t 80)),
  o1 82 (.mov (.t 14)),
  o1 83 (.bsl false 1 [(.t 82)]),
  o1 84 (.app 1 (.t 81) (.t 83)),
  o1 85 (.fld 0 (.t 11)),
  n1 (.st 1 (.t 85) (.t 84))]
def r89_24 : List MOper := [o1 86 (.fld 1 (.t 11)),
  o1 87 (.ld false 1 (.t 86)),
  o1 88 (.mov (.t 18)),
  o1 89 (.bsl false 1 [(.t 88)]),
  o1 90 (.app 1 (.t 87) (.t 89)),
  o1 91 (.fld 1 (.t 11)),
  n1 (.st 1 (.t 91) (.t 90))]
def r89_25 : List MOper := [o1 92 (.mov (.t 12)),
  o1 93 (.mov (.t 17)),
  o1 94 (.bsl false 1 [(.t 93)]),
  o1 95 (.app 1 (.t 92) (.t 94)),
  o1 12 (.mov (.t 95))]
def r89_26 : List MOper := [o1 96 (.bin .add (.t 50) (.i 1)),
  o1 50 (.mov (.t 96))]
def b89_2 : MCode := .seq (.reg false r89_14 [1, 2, 3, 6, 10, 11, 12, 13, 14, 42, 43, 44, 49, 50, 51])
 (.seq (.cond 51 (.skip) (.exit 2))
 (.seq (.block 3 (.seq (.reg false r89_15 [1, 2, 3, 6, 10, 11, 12, 13, 14, 15, 42, 43, 44, 49, 50])
 (.seq (.reg false r89_16 [1, 2, 3, 6, 10, 11, 12, 13, 14, 16, 17, 42, 43, 44, 49, 50])
 (.seq (.reg false r89_17 [1, 2, 3, 6, 10, 11, 12, 13, 14, 16, 17, 18, 42, 43, 44, 49, 50])
 (.seq (.seq (.reg false r89_18 [1, 2, 3, 6, 10, 11, 12, 13, 14, 16, 17, 18, 42, 43, 44, 49, 50, 65, 66, 67])
 (.block 4 (.loop [1, 2, 3, 6, 10, 11, 12, 13, 14, 16, 17, 18, 42, 43, 44, 49, 50, 65, 66, 67] b89_3)))
 (.seq (.reg false r89_23 [1, 2, 3, 6, 10, 11, 12, 13, 14, 17, 18, 42, 43, 44, 49, 50])
 (.seq (.reg false r89_24 [1, 2, 3, 6, 10, 11, 12, 13, 14, 17, 42, 43, 44, 49, 50])
 (.reg false r89_25 [1, 2, 3, 6, 10, 11, 12, 13, 14, 42, 43, 44, 49, 50]))))))))
 (.reg false r89_26 [1, 2, 3, 6, 10, 11, 12, 13, 14, 42, 43, 44, 49, 50])))
def r89_27 : List MOper := [o1 97 (.bin .add (.t 44) (.i 1)),
  o1 44 (.mov (.t 97))]
def b89_1 : MCode := .seq (.reg false r89_11 [1, 2, 3, 6, 10, 11, 12, 42, 43, 44, 45])
 (.seq (.cond 45 (.skip) (.exit 0))
 (.seq (.block 1 (.seq (.reg false r89_12 [1, 2, 3, 6, 10, 11, 12, 13, 14, 42, 43, 44])
 (.seq (.reg false r89_13 [1, 2, 3, 6, 10, 11, 12, 13, 14, 42, 43, 44, 49, 50])
 (.block 2 (.loop [1, 2, 3, 6, 10, 11, 12, 13, 14, 42, 43, 44, 49, 50] b89_2)))))
 (.reg false r89_27 [1, 2, 3, 6, 10, 11, 12, 42, 43, 44])))
def r89_28 : List MOper := [o1 98 (.ld true 2 (.t 11)),
  o1 99 (.mov (.t 12)),
  n1 (.st 2 (.t 6) (.t 98)),
  o1 7 (.mov (.t 99)),
  o1 8 (.mov (.i 0))]
def c89 : MCode := .seq (.reg false r89_1 [1, 2, 3, 6])
 (.seq (.seq (.reg false r89_2 [1, 2, 3, 6, 9])
 (.seq (.reg false r89_3 [1, 2, 3, 6, 9, 24])
 (.cond 24 (.seq (.reg false r89_4 [6, 7, 8])
 (.ret)) (.skip))))
 (.seq (.reg false r89_5 [1, 2, 3, 6, 10])
 (.seq (.seq (.reg false r89_6 [1, 2, 3, 6, 10, 39])
 (.cond 39 (.seq (.reg false r89_7 [6, 7, 8])
 (.ret)) (.skip)))
 (.seq (.reg false r89_8 [1, 2, 3, 6, 10, 11])
 (.seq (.reg false r89_9 [1, 2, 3, 6, 10, 11, 12])
 (.seq (.seq (.reg false r89_10 [1, 2, 3, 6, 10, 11, 12, 42, 43, 44])
 (.block 0 (.loop [1, 2, 3, 6, 10, 11, 12, 42, 43, 44] b89_1)))
 (.seq (.reg false r89_28 [6, 7, 8])
 (.ret))))))))
def m89 : MFunc := ⟨3, [.cell 6 true 2, .tmp 7, .tmp 8], c89⟩
def r90_1 : List MOper := [o1 4 (.mov (.i 0))]
def r90_2 : List MOper := [o1 5 (.mov (.t 0)),
  o1 6 (.len (.t 5)),
  o1 7 (.mov (.t 1)),
  o1 8 (.len (.t 7)),
  o1 9 (.mx [(.t 6), (.t 8)]),
  o1 10 (.bin .gtr (.t 9) (.i 4))]
def r90_3 : List MOper := [o1 4 (.mov (.i 0))]
def r90_4 : List MOper := [o1 11 (.mov (.t 0)),
  o1 12 (.len (.t 11)),
  o1 13 (.mx [(.i 1), (.t 12)]),
  o1 14 (.mov (.t 1)),
  o1 15 (.len (.t 14)),
  o1 16 (.mx [(.i 1), (.t 15)]),
  o1 17 (.bin .mul (.t 13) (.t 16)),
  o1 4 (.mov (.t 17))]
def c90 : MCode := .seq (.reg false r90_1 [0, 1])
 (.seq (.seq (.reg false r90_2 [0, 1, 10])
 (.cond 10 (.seq (.reg false r90_3 [4])
 (.ret)) (.skip)))
 (.seq (.reg false r90_4 [4])
 (.ret)))
def m90 : MFunc := ⟨3, [.tmp 4], c90⟩
def r91_1 : List MOper := [o1 2 (.box (.t 0)),
  o1 4 (.mov (.c (.fz .isnil 1 [])))]
def r91_2 : List MOper := [o1 11 (.ld true 2 (.t 2)),
  o1 12 (.mov (.t 1)),
  o1 13 (.call 31 [(.t 11), (.t 12)]),
  o1 10 (.mov (.t 13)),
  o1 14 (.ext (.t 10) 0),
  o1 15 (.ext (.t 10) 1),
  o1 5 (.mov (.t 14)),
  o1 6 (.mov (.t 15))]
def r91_3 : List MOper := [o1 16 (.mov (.t 6)),
  o1 17 (.isn (.t 16))]
def r91_4 : List MOper := [o1 4 (.mov (.c (.fz .isnil 1 [])))]
def r91_5 : List MOper := [o1 18 (.mov (.t 6)),
  o1 19 (.len (.t 18)),
  o1 20 (.mksl 1 (.int .i64 0) (.t 19)),
  o1 7 (.mov (.t 20))]
def r91_6 : List MOper := [o1 21 (.mov (.t 6)),
  o1 22 (.len (.t 21)),
  o1 23 (.mov (.i 0))]
def r91_7 : List MOper := [o1 24 (.bin .lss (.t 23) (.t 22))]
def r91_8 : List MOper := [o1 25 (.mov (.t 23)),
  o1 26 (.ixs 1 (.t 21) (.t 23)),
  o1 27 (.ld false 1 (.t 26)),
  o1 8 (.mov (.t 25)),
  o1 9 (.mov (.t 27))]
def r91_9 : List MOper := [o1 28 (.mov (.t 7)),
  o1 29 (.mov (.t 8)),
  o1 30 (.ixs 1 (.t 28) (.t 29)),
  n1 (.st 1 (.t 30) (.i 1))]
def r91_10 : List MOper := [o1 31 (.mov (.t 9))]
def r91_11 : List MOper := [o1 32 (.mov (.t 7)),
  o1 33 (.mov (.t 8)),
  o1 34 (.ixs 1 (.t 32) (.t 33)),
  n1 (.st 1 (.t 34) (.i 0))]
def r91_12 : List MOper := [o1 35 (.bin .add (.t 23) (.i 1)),
  o1 23 (.mov (.t 35))]
def b91_1 : MCode := .seq (.reg false r91_7 [7, 21, 22, 23, 24])
 (.seq (.cond 24 (.skip) (.exit 0))
 (.seq (.block 1 (.seq (.reg false r91_8 [7, 8, 9, 21, 22, 23])
 (.seq (.reg false r91_9 [7, 8, 9, 21, 22, 23])
 (.seq (.reg false r91_10 [7, 8, 21, 22, 23, 31])
 (.cond 31 (.reg false r91_11 [7, 21, 22, 23]) (.skip))))))
 (.reg false r91_12 [7, 21, 22, 23])))
def r91_13 : List MOper := [o1 36 (.mov (.t 7)),
  o1 4 (.mov (.t 36))]
def c91 : MCode := .seq (.reg false r91_1 [1, 2])
 (.seq (.reg false r91_2 [6])
 (.seq (.seq (.reg false r91_3 [6, 17])
 (.cond 17 (.seq (.reg false r91_4 [4])
 (.ret)) (.skip)))
 (.seq (.reg false r91_5 [6, 7])
 (.seq (.seq (.reg false r91_6 [7, 21, 22, 23])
 (.block 0 (.loop [7, 21, 22, 23] b91_1)))
 (.seq (.reg false r91_13 [4])
 (.ret))))))
def m91 : MFunc := ⟨3, [.tmp 4], c91⟩
def r92_1 : List MOper := [o1 1 (.box (.t 0)),
  o1 2 (.mov (.i 0))]
def r92_2 : List MOper := [o1 6 (.fld 0 (.t 1)),
  o1 7 (.ld false 1 (.t 6)),
  o1 8 (.len (.t 7)),
  o1 3 (.mov (.t 8))]
def r92_3 : List MOper := [o1 9 (.fld 1 (.t 1)),
  o1 10 (.ld false 1 (.t 9)),
  o1 11 (.len (.t 10)),
  o1 12 (.mov (.i 0))]
def r92_4 : List MOper := [o1 13 (.bin .lss (.t 12) (.t 11))]
def r92_5 : List MOper := [o1 14 (.ixs 1 (.t 10) (.t 12)),
  o1 15 (.ld false 1 (.t 14)),
  o1 5 (.mov (.t 15))]
def r92_6 : List MOper := [o1 16 (.mov (.t 3)),
  o1 17 (.mov (.t 5)),
  o1 18 (.len (.t 17)),
  o1 19 (.bin .add (.t 16) (.t 18)),
  o1 3 (.mov (.t 19))]
def r92_7 : List MOper := [o1 20 (.bin .add (.t 12) (.i 1)),
  o1 12 (.mov (.t 20))]
def b92_1 : MCode := .seq (.reg false r92_4 [1, 3, 10, 11, 12, 13])
 (.seq (.cond 13 (.skip) (.exit 0))
 (.seq (.block 1 (.seq (.reg false r92_5 [1, 3, 5, 10, 11, 12])
 (.reg false r92_6 [1, 3, 10, 11, 12])))
 (.reg false r92_7 [1, 3, 10, 11, 12])))
def r92_8 : List MOper := [o1 21 (.mov (.t 3)),
  o1 22 (.bin .gtr (.t 21) (.i 400)),
  o1 23 (.mov (.t 22)),
  o2 24 23 false (.fld 1 (.t 1)),
  o2 25 23 false (.ld false 1 (.t 24)),
  o2 26 23 false (.len (.t 25)),
  o2 27 23 false (.bin .gtr (.t 26) (.i 200)),
  o1 28 (.pick (.t 23) (.c (.bool true)) (.t 27))]
def r92_9 : List MOper := [o1 29 (.mov (.t 3)),
  o1 2 (.mov (.t 29))]
def r92_10 : List MOper := [o1 2 (.mov (.i 0))]
def c92 : MCode := .seq (.reg false r92_1 [1])
 (.seq (.reg false r92_2 [1, 3])
 (.seq (.seq (.reg false r92_3 [1, 3, 10, 11, 12])
 (.block 0 (.loop [1, 3, 10, 11, 12] b92_1)))
 (.seq (.seq (.reg false r92_8 [3, 28])
 (.cond 28 (.seq (.reg false r92_9 [2])
 (.ret)) (.skip)))
 (.seq (.reg false r92_10 [2])
 (.ret)))))
def m92 : MFunc := ⟨3, [.tmp 2], c92⟩
def r93_1 : List MOper := [o1 2 (.box (.t 0)),
  o1 4 (.mov (.c (.fz .isnil 4 []))),
  o1 5 (.mov (.c (.bool false)))]
def r93_2 : List MOper := [o1 9 (.ld true 2 (.t 2)),
  o1 10 (.call 69 [(.t 9)]),
  o1 11 (.bin .neq (.t 10) (.i 0)),
  o1 12 (.mov (.t 11)),
  o2 13 12 false (.mov (.t 1)),
  o2 14 12 false (.len (.t 13)),
  o2 15 12 false (.fld 0 (.t 2)),
  o2 16 12 false (.ld false 1 (.t 15)),
  o2 17 12 false (.len (.t 16)),
  o2 18 12 false (.bin .neq (.t 14) (.t 17)),
  o1 19 (.pick (.t 12) (.c (.bool true)) (.t 18))]
def r93_3 : List MOper := [o1 4 (.mov (.c (.fz .isnil 4 []))),
  o1 5 (.mov (.c (.bool false)))]
def q93_4 : List MOper := [ox (some 20) none .R false (.ld true 2 (.t 2)),
  o1 21 (.mov (.t 1)),
  o1 22 (.mov (.t 1)),
  o1 23 (.len (.t 22)),
  ox (some 24) none .A false (.mksl 4 (.agg [.int .i64 0, .int .i64 0, .int .i64 0, .bool false]) (.t 23)),
  o1 25 (.mov (.t 1)),
  o1 26 (.len (.t 25)),
  ox (some 27) none .A false (.mksl 1 (.bool false) (.t 26)),
  ox (some 28) none .L false (.build [.fz .isnil 1 [], .fz .isnil 1 [], .fz .isnil 1 [], .int .i64 0, .int .i64 0, .int .i64 0, .fz .isnil 4 [], .fz .isnil 1 [], .fz .isnil 1 []] [(7, 1)] [(0, 2, (.t 20)), (2, 1, (.t 21)), (6, 1, (.t 24)), (8, 1, (.t 27))]),
  ox (some 29) none .L false (.box (.t 28)),
  o1 6 (.mov (.t 29))]
def r93_4 : List MOper := q93_4
def r93_5 : List MOper := [o1 30 (.mov (.t 1)),
  o1 31 (.len (.t 30)),
  o1 32 (.mov (.i 0))]
def r93_6 : List MOper := [o1 33 (.bin .lss (.t 32) (.t 31))]
def r93_7 : List MOper := [o1 34 (.ixs 1 (.t 30) (.t 32)),
  o1 35 (.ld false 1 (.t 34)),
  o1 8 (.mov (.t 35))]
def r93_8 : List MOper := [o1 36 (.mov (.t 8)),
  o1 37 (.bin .lss (.t 36) (.i 0)),
  o1 38 (.mov (.t 37)),
  o2 39 38 false (.mov (.t 8)),
  o2 40 38 false (.bin .geq (.t 39) (.i 6)),
  o1 41 (.pick (.t 38) (.c (.bool true)) (.t 40))]
def r93_9 : List MOper := [o1 4 (.mov (.c (.fz .isnil 4 []))),
  o1 5 (.mov (.c (.bool false)))]
def r93_10 : List MOper := [o1 42 (.mov (.t 8)),
  o1 43 (.bin .rem (.t 42) (.i 2)),
  o1 44 (.bin .eql (.t 43) (.i 1))]
def q93_11 : List MOper := [o1 45 (.mov (.t 6)),
  o1 46 (.mov (.t 8)),
  o1 47 (.bin .quo (.t 46) (.i 2)),
  o1 48 (.nilck (.t 45)),
  o1 49 (.fld 3 (.t 48)),
  o1 50 (.ixa 3 1 (.t 49) (.t 47)),
  ox (some 51) none .R false (.ld false 1 (.t 50)),
  o1 52 (.bin .add (.t 51) (.i 1)),
  o1 53 (.nilck (.t 45)),
  o1 54 (.fld 3 (.t 53)),
  o1 55 (.ixa 3 1 (.t 54) (.t 47)),
  ox none none .L false (.st 1 (.t 55) (.t 52))]
def r93_11 : List MOper := q93_11
def r93_12 : List MOper := [o1 56 (.bin .add (.t 32) (.i 1)),
  o1 32 (.mov (.t 56))]
def b93_1 : MCode := .seq (.reg false r93_6 [6, 30, 31, 32, 33])
 (.seq (.cond 33 (.skip) (.exit 0))
 (.seq (.block 1 (.seq (.reg false r93_7 [6, 8, 30, 31, 32])
 (.seq (.seq (.reg false r93_8 [6, 8, 30, 31, 32, 41])
 (.cond 41 (.seq (.reg false r93_9 [4, 5])
 (.ret)) (.skip)))
 (.seq (.reg false r93_10 [6, 8, 30, 31, 32, 44])
 (.cond 44 (.reg true r93_11 [6, 30, 31, 32]) (.skip))))))
 (.reg false r93_12 [6, 30, 31, 32])))
def r93_13 : List MOper := [o1 57 (.mov (.t 6)),
  o1 58 (.call 144 [(.t 57)])]
def r93_14 : List MOper := [o1 59 (.mov (.t 6)),
  o1 60 (.nilck (.t 59)),
  o1 61 (.fld 6 (.t 60)),
  o1 62 (.ld false 1 (.t 61)),
  o1 4 (.mov (.t 62)),
  o1 5 (.mov (.c (.bool true)))]
def c93 : MCode := .seq (.reg false r93_1 [1, 2])
 (.seq (.seq (.reg false r93_2 [1, 2, 19])
 (.cond 19 (.seq (.reg false r93_3 [4, 5])
 (.ret)) (.skip)))
 (.seq (.reg true r93_4 [1, 6])
 (.seq (.seq (.reg false r93_5 [6, 30, 31, 32])
 (.block 0 (.loop [6, 30, 31, 32] b93_1)))
 (.seq (.reg false r93_13 [6])
 (.seq (.reg false r93_14 [4, 5])
 (.ret))))))
def m93 : MFunc := ⟨3, [.tmp 4, .tmp 5], c93⟩
def r94_1 : List MOper := [o1 4 (.mov (.c (.bool false)))]
def r94_2 : List MOper := [o1 5 (.mov (.i (-1)))]
def r94_3 : List MOper := [o1 8 (.mov (.t 0)),
  o1 9 (.len (.t 8)),
  o1 10 (.mov (.i 0))]
def r94_4 : List MOper := [o1 11 (.bin .lss (.t 10) (.t 9))]
def r94_5 : List MOper := [o1 12 (.ixs 1 (.t 8) (.t 10)),
  o1 13 (.ld false 1 (.t 12)),
  o1 7 (.mov (.t 13))]
def r94_6 : List MOper := [o1 14 (.mov (.t 7)),
  o1 15 (.mov (.t 5)),
  o1 16 (.bin .leq (.t 14) (.t 15)),
  o1 17 (.mov (.t 16)),
  o2 18 17 false (.mov (.t 7)),
  o2 19 17 false (.mov (.t 1)),
  o2 20 17 false (.bin .geq (.t 18) (.t 19)),
  o1 21 (.pick (.t 17) (.c (.bool true)) (.t 20))]
def r94_7 : List MOper := [o1 4 (.mov (.c (.bool false)))]
def r94_8 : List MOper := [o1 22 (.mov (.t 7)),
  o1 5 (.mov (.t 22))]
def r94_9 : List MOper := [o1 23 (.bin .add (.t 10) (.i 1)),
  o1 10 (.mov (.t 23))]
def b94_1 : MCode := .seq (.reg false r94_4 [1, 5, 8, 9, 10, 11])
 (.seq (.cond 11 (.skip) (.exit 0))
 (.seq (.block 1 (.seq (.reg false r94_5 [1, 5, 7, 8, 9, 10])
 (.seq (.seq (.reg false r94_6 [1, 7, 8, 9, 10, 21])
 (.cond 21 (.seq (.reg false r94_7 [4])
 (.ret)) (.skip)))
 (.reg false r94_8 [1, 5, 8, 9, 10]))))
 (.reg false r94_9 [1, 5, 8, 9, 10])))
def r94_10 : List MOper := [o1 4 (.mov (.c (.bool true)))]
def c94 : MCode := .seq (.reg false r94_1 [0, 1])
 (.seq (.reg false r94_2 [0, 1, 5])
 (.seq (.seq (.reg false r94_3 [1, 5, 8, 9, 10])
 (.block 0 (.loop [1, 5, 8, 9, 10] b94_1)))
 (.seq (.reg false r94_10 [4])
 (.ret))))
def m94 : MFunc := ⟨3, [.tmp 4], c94⟩
def r95_1 : List MOper := [o1 3 (.box (.t 0)),
  o1 6 (.mov (.c (.fz .isnil 1 [])))]
def r95_2 : List MOper := [o1 11 (.ld true 2 (.t 3)),
  o1 12 (.mov (.t 1)),
  o1 13 (.mov (.t 2)),
  o1 14 (.call 145 [(.t 11), (.t 12), (.t 13)]),
  o1 7 (.mov (.t 14))]
def r95_3 : List MOper := [o1 15 (.mov (.t 7)),
  o1 16 (.isn (.t 15))]
def r95_4 : List MOper := [o1 6 (.mov (.c (.fz .isnil 1 [])))]
def r95_5 : List MOper := [o1 17 (.mov (.t 7)),
  o1 18 (.len (.t 17)),
  o1 19 (.mksl 1 (.bool false) (.t 18)),
  o1 8 (.mov (.t 19))]
def r95_6 : List MOper := [o1 20 (.mov (.t 7)),
  o1 21 (.len (.t 20)),
  o1 22 (.mov (.i 0))]
def r95_7 : List MOper := [o1 23 (.bin .lss (.t 22) (.t 21))]
def r95_8 : List MOper := [o1 24 (.mov (.t 22)),
  o1 25 (.ixs 1 (.t 20) (.t 22)),
  o1 26 (.ld false 1 (.t 25)),
  o1 9 (.mov (.t 24)),
  o1 10 (.mov (.t 26))]
def r95_9 : List MOper := [o1 27 (.mov (.t 8)),
  o1 28 (.mov (.t 9)),
  o1 29 (.mov (.t 10)),
  o1 30 (.bin .geq (.t 29) (.i 0)),
  o1 31 (.ixs 1 (.t 27) (.t 28)),
  n1 (.st 1 (.t 31) (.t 30))]
def r95_10 : List MOper := [o1 32 (.bin .add (.t 22) (.i 1)),
  o1 22 (.mov (.t 32))]
def b95_1 : MCode := .seq (.reg false r95_7 [3, 8, 20, 21, 22, 23])
 (.seq (.cond 23 (.skip) (.exit 0))
 (.seq (.block 1 (.seq (.reg false r95_8 [3, 8, 9, 10, 20, 21, 22])
 (.reg false r95_9 [3, 8, 20, 21, 22])))
 (.reg false r95_10 [3, 8, 20, 21, 22])))
def r95_11 : List MOper := [o1 33 (.ld true 2 (.t 3)),
  o1 34 (.mov (.t 8)),
  o1 35 (.mov (.t 8)),
  o1 36 (.call 1040 [(.t 33), (.t 34), (.t 35)]),
  o1 6 (.mov (.t 36))]
def c95 : MCode := .seq (.reg false r95_1 [1, 2, 3])
 (.seq (.reg false r95_2 [3, 7])
 (.seq (.seq (.reg false r95_3 [3, 7, 16])
 (.cond 16 (.seq (.reg false r95_4 [6])
 (.ret)) (.skip)))
 (.seq (.reg false r95_5 [3, 7, 8])
 (.seq (.seq (.reg false r95_6 [3, 8, 20, 21, 22])
 (.block 0 (.loop [3, 8, 20, 21, 22] b95_1)))
 (.seq (.reg false r95_11 [6])
 (.ret))))))
def m95 : MFunc := ⟨3, [.tmp 6], c95⟩
def r96_1 : List MOper := [o1 4 (.mov (.c (.bool false)))]
def r96_2 : List MOper := [o1 6 (.mov (.t 0)),
  o1 7 (.len (.t 6)),
  o1 8 (.mov (.t 1)),
  o1 9 (.len (.t 8)),
  o1 10 (.bin .neq (.t 7) (.t 9))]
def r96_3 : List MOper := [o1 4 (.mov (.c (.bool false)))]
def r96_4 : List MOper := [o1 11 (.mov (.t 0)),
  o1 12 (.len (.t 11)),
  o1 13 (.mov (.i 0))]
def r96_5 : List MOper := [o1 14 (.bin .lss (.t 13) (.t 12))]
def r96_6 : List MOper := [o1 15 (.mov (.t 13)),
  o1 5 (.mov (.t 15))]
def q96_7 : List MOper := [o1 16 (.mov (.t 0)),
  o1 17 (.mov (.t 5)),
  o1 18 (.ixs 1 (.t 16) (.t 17)),
  ox (some 19) none .R false (.ld false 1 (.t 18)),
  o1 20 (.mov (.t 1)),
  o1 21 (.mov (.t 5)),
  o1 22 (.ixs 1 (.t 20) (.t 21)),
  ox (some 23) none .R false (.ld false 1 (.t 22)),
  o1 24 (.beq true (.t 19) (.t 23))]
def r96_7 : List MOper := q96_7
def r96_8 : List MOper := [o1 4 (.mov (.c (.bool false)))]
def r96_9 : List MOper := [o1 25 (.bin .add (.t 13) (.i 1)),
  o1 13 (.mov (.t 25))]
def b96_1 : MCode := .seq (.reg false r96_5 [0, 1, 12, 13, 14])
 (.seq (.cond 14 (.skip) (.exit 0))
 (.seq (.block 1 (.seq (.reg false r96_6 [0, 1, 5, 12, 13])
 (.seq (.reg true r96_7 [0, 1, 12, 13, 24])
 (.cond 24 (.seq (.reg false r96_8 [4])
 (.ret)) (.skip)))))
 (.reg false r96_9 [0, 1, 12, 13])))
def r96_10 : List MOper := [o1 4 (.mov (.c (.bool true)))]
def c96 : MCode := .seq (.reg false r96_1 [0, 1])
 (.seq (.seq (.reg false r96_2 [0, 1, 10])
 (.cond 10 (.seq (.reg false r96_3 [4])
 (.ret)) (.skip)))
 (.seq (.seq (.reg false r96_4 [0, 1, 12, 13])
 (.block 0 (.loop [0, 1, 12, 13] b96_1)))
 (.seq (.reg false r96_10 [4])
 (.ret))))
def m96 : MFunc := ⟨3, [.tmp 4], c96⟩
def r97_1 : List MOper := [o1 2 (.box (.t 0)),
  o1 4 (.mov (.c (.fz .isnil 1 [])))]
def r97_2 : List MOper := [o1 7 (.fld 0 (.t 2)),
  o1 8 (.ld false 1 (.t 7)),
  o1 9 (.len (.t 8)),
  o1 10 (.mksl 1 (.bool false) (.t 9)),
  o1 5 (.mov (.t 10))]
def r97_3 : List MOper := [o1 11 (.mov (.t 5)),
  o1 12 (.len (.t 11)),
  o1 13 (.mov (.i 0))]
def r97_4 : List MOper := [o1 14 (.bin .lss (.t 13) (.t 12))]
def r97_5 : List MOper := [o1 15 (.mov (.t 13)),
  o1 6 (.mov (.t 15))]
def r97_6 : List MOper := [o1 16 (.mov (.t 5)),
  o1 17 (.mov (.t 6)),
  o1 18 (.mov (.t 1)),
  o1 19 (.mov (.t 6)),
  o1 20 (.callv (.t 18) [(.t 19)]),
  o1 21 (.ixs 1 (.t 16) (.t 17)),
  n1 (.st 1 (.t 21) (.t 20))]
def r97_7 : List MOper := [o1 22 (.bin .add (.t 13) (.i 1)),
  o1 13 (.mov (.t 22))]
def b97_1 : MCode := .seq (.reg false r97_4 [1, 5, 12, 13, 14])
 (.seq (.cond 14 (.skip) (.exit 0))
 (.seq (.block 1 (.seq (.reg false r97_5 [1, 5, 6, 12, 13])
 (.reg false r97_6 [1, 5, 12, 13])))
 (.reg false r97_7 [1, 5, 12, 13])))
def r97_8 : List MOper := [o1 23 (.mov (.t 5)),
  o1 4 (.mov (.t 23))]
def c97 : MCode := .seq (.reg false r97_1 [1, 2])
 (.seq (.reg false r97_2 [1, 5])
 (.seq (.seq (.reg false r97_3 [1, 5, 12, 13])
 (.block 0 (.loop [1, 5, 12, 13] b97_1)))
 (.seq (.reg false r97_8 [4])
 (.ret))))
def m97 : MFunc := ⟨1, [.tmp 4], c97⟩
def r98_1 : List MOper := [o1 5 (.mov (.c (.bool false)))]
def r98_2 : List MOper := [o1 6 (.mov (.i 0))]
def r98_3 : List MOper := [o1 9 (.fld 1 (.t 1)),
  o1 10 (.ld false 1 (.t 9)),
  o1 11 (.mov (.t 0)),
  o1 12 (.ixs 1 (.t 10) (.t 11)),
  o1 13 (.ld false 1 (.t 12)),
  o1 14 (.len (.t 13)),
  o1 15 (.mov (.i 0))]
def r98_4 : List MOper := [o1 16 (.bin .lss (.t 15) (.t 14))]
def r98_5 : List MOper := [o1 17 (.ixs 1 (.t 13) (.t 15)),
  o1 18 (.ld false 1 (.t 17)),
  o1 8 (.mov (.t 18))]
def r98_6 : List MOper := [o1 19 (.ld false 1 (.t 2)),
  o1 20 (.mov (.t 8)),
  o1 21 (.call 99 [(.t 19), (.t 20)])]
def r98_7 : List MOper := [o1 22 (.mov (.t 6)),
  o1 23 (.bin .add (.t 22) (.i 1)),
  o1 6 (.mov (.t 23))]
def r98_8 : List MOper := [o1 24 (.bin .add (.t 15) (.i 1)),
  o1 15 (.mov (.t 24))]
def b98_1 : MCode := .seq (.reg false r98_4 [0, 1, 2, 3, 6, 13, 14, 15, 16])
 (.seq (.cond 16 (.skip) (.exit 0))
 (.seq (.block 1 (.seq (.reg false r98_5 [0, 1, 2, 3, 6, 8, 13, 14, 15])
 (.seq (.reg false r98_6 [0, 1, 2, 3, 6, 13, 14, 15, 21])
 (.cond 21 (.reg false r98_7 [0, 1, 2, 3, 6, 13, 14, 15]) (.skip)))))
 (.reg false r98_8 [0, 1, 2, 3, 6, 13, 14, 15])))
def q98_9 : List MOper := [o1 25 (.fld 0 (.t 1)),
  ox (some 26) none .R false (.ld false 1 (.t 25)),
  o1 27 (.mov (.t 0)),
  o1 28 (.ixs 1 (.t 26) (.t 27)),
  ox (some 29) none .R false (.ld false 1 (.t 28)),
  ox (some 30) none .R false (.ld false 1 (.t 3)),
  o1 31 (.bin .eql (.t 29) (.t 30))]
def r98_9 : List MOper := q98_9
def r98_10 : List MOper := [o1 32 (.mov (.t 6)),
  o1 33 (.bin .gtr (.t 32) (.i 0)),
  o1 5 (.mov (.t 33))]
def r98_11 : List MOper := [o1 34 (.mov (.t 6)),
  o1 35 (.fld 1 (.t 1)),
  o1 36 (.ld false 1 (.t 35)),
  o1 37 (.mov (.t 0)),
  o1 38 (.ixs 1 (.t 36) (.t 37)),
  o1 39 (.ld false 1 (.t 38)),
  o1 40 (.len (.t 39)),
  o1 41 (.bin .eql (.t 34) (.t 40)),
  o1 5 (.mov (.t 41))]
def c98 : MCode := .seq (.reg false r98_1 [0, 1, 2, 3])
 (.seq (.reg false r98_2 [0, 1, 2, 3, 6])
 (.seq (.seq (.reg false r98_3 [0, 1, 2, 3, 6, 13, 14, 15])
 (.block 0 (.loop [0, 1, 2, 3, 6, 13, 14, 15] b98_1)))
 (.seq (.seq (.reg true r98_9 [0, 1, 6, 31])
 (.cond 31 (.seq (.reg false r98_10 [5])
 (.ret)) (.skip)))
 (.seq (.reg false r98_11 [5])
 (.ret)))))
def m98 : MFunc := ⟨1, [.tmp 5], c98⟩
def r99_1 : List MOper := [o1 4 (.mov (.c (.bool false)))]
def r99_2 : List MOper := [o1 5 (.mov (.t 1)),
  o1 6 (.mov (.t 0)),
  o1 7 (.len (.t 6)),
  o1 8 (.bin .lss (.t 5) (.t 7)),
  o1 9 (.mov (.t 8)),
  o2 10 9 true (.mov (.t 0)),
  o2 11 9 true (.mov (.t 1)),
  o2 12 9 true (.ixs 1 (.t 10) (.t 11)),
  o2 13 9 true (.ld false 1 (.t 12)),
  o1 14 (.pick (.t 9) (.t 13) (.c (.bool false))),
  o1 4 (.mov (.t 14))]
def c99 : MCode := .seq (.reg false r99_1 [0, 1])
 (.seq (.reg false r99_2 [4])
 (.ret))
def m99 : MFunc := ⟨3, [.tmp 4], c99⟩
def r100_1 : List MOper := [o1 4 (.mov (.c (.bool false)))]
def r100_2 : List MOper := [o1 5 (.ld false 1 (.t 1)),
  o1 6 (.mov (.t 0)),
  o1 7 (.call 99 [(.t 5), (.t 6)]),
  o1 8 (.mov (.t 7)),
  o2 9 8 true (.ld false 1 (.t 2)),
  o2 10 8 true (.mov (.t 0)),
  o2 11 8 true (.call 99 [(.t 9), (.t 10)]),
  o1 12 (.pick (.t 8) (.t 11) (.c (.bool false))),
  o1 4 (.mov (.t 12))]
def c100 : MCode := .seq (.reg false r100_1 [0, 1, 2])
 (.seq (.reg false r100_2 [4])
 (.ret))
def m100 : MFunc := ⟨1, [.tmp 4], c100⟩
def r101_1 : List MOper := [o1 3 (.mov (.c (.bool false)))]
def r101_2 : List MOper := [o1 4 (.ld false 1 (.t 1)),
  o1 5 (.mov (.t 0)),
  o1 6 (.call 99 [(.t 4), (.t 5)]),
  o1 7 (.not (.t 6)),
  o1 3 (.mov (.t 7))]
def c101 : MCode := .seq (.reg false r101_1 [0, 1])
 (.seq (.reg false r101_2 [3])
 (.ret))
def m101 : MFunc := ⟨1, [.tmp 3], c101⟩
def r102_1 : List MOper := [o1 2 (.box (.t 0)),
  o1 4 (.alloc [.fz .isnil 1 [], .fz .isnil 1 []] [])]
def r102_2 : List MOper := [o1 10 (.ld true 2 (.t 2)),
  o1 11 (.call 69 [(.t 10)]),
  o1 12 (.bin .neq (.t 11) (.i 0))]
def r102_3 : List MOper := [o1 13 (.build [.fz .isnil 1 [], .fz .isnil 1 []] [] []),
  n1 (.st 2 (.t 4) (.t 13))]
def q102_4 : List MOper := [o1 14 (.fld 0 (.t 2)),
  ox (some 15) none .R false (.ld false 1 (.t 14)),
  ox (some 16) none .R false (.call 146 [(.t 15)]),
  o1 17 (.fld 1 (.t 2)),
  ox (some 18) none .R false (.ld false 1 (.t 17)),
  o1 19 (.len (.t 18)),
  ox (some 20) none .A false (.mksl 1 (.fz .isnil 1 []) (.t 19)),
  o1 21 (.build [.fz .isnil 1 [], .fz .isnil 1 []] [] [(0, 1, (.t 16)), (1, 1, (.t 20))]),
  ox (some 5) none .A false (.alloc [.fz .isnil 1 [], .fz .isnil 1 []] []),
  ox none none .L false (.st 2 (.t 5) (.t 21))]
def r102_4 : List MOper := q102_4
def r102_5 : List MOper := [o1 22 (.fld 1 (.t 2)),
  o1 23 (.ld false 1 (.t 22)),
  o1 24 (.len (.t 23)),
  o1 25 (.mov (.i 0))]
def r102_6 : List MOper := [o1 26 (.bin .lss (.t 25) (.t 24))]
def r102_7 : List MOper := [o1 27 (.mov (.t 25)),
  o1 28 (.ixs 1 (.t 23) (.t 25)),
  o1 29 (.ld false 1 (.t 28)),
  o1 6 (.mov (.t 27)),
  o1 7 (.mov (.t 29))]
def r102_8 : List MOper := [o1 30 (.mov (.t 7)),
  o1 31 (.len (.t 30)),
  o1 32 (.mov (.i 0))]
def r102_9 : List MOper := [o1 33 (.bin .lss (.t 32) (.t 31))]
def r102_10 : List MOper := [o1 34 (.ixs 1 (.t 30) (.t 32)),
  o1 35 (.ld false 1 (.t 34)),
  o1 9 (.mov (.t 35))]
def r102_11 : List MOper := [o1 36 (.mov (.t 1)),
  o1 37 (.mov (.t 6)),
  o1 38 (.mov (.t 9)),
  o1 39 (.callv (.t 36) [(.t 37), (.t 38)])]
def q102_12 : List MOper := [o1 40 (.fld 1 (.t 5)),
  ox (some 41) none .R true (.ld false 1 (.t 40)),
  o1 42 (.mov (.t 6)),
  o1 43 (.fld 1 (.t 5)),
  ox (some 44) none .R false (.ld false 1 (.t 43)),
  o1 45 (.mov (.t 6)),
  o1 46 (.ixs 1 (.t 44) (.t 45)),
  ox (some 47) none .R false (.ld false 1 (.t 46)),
  o1 48 (.mov (.t 9)),
  o1 49 (.bsl false 1 [(.t 48)]),
  ox (some 50) none .L false (.app 1 (.t 47) (.t 49)),
  o1 51 (.ixs 1 (.t 41) (.t 42)),
  ox none none .L false (.st 1 (.t 51) (.t 50))]
def r102_12 : List MOper := q102_12
def r102_13 : List MOper := [o1 52 (.bin .add (.t 32) (.i 1)),
  o1 32 (.mov (.t 52))]
def b102_2 : MCode := .seq (.reg false r102_9 [1, 4, 5, 6, 23, 24, 25, 30, 31, 32, 33])
 (.seq (.cond 33 (.skip) (.exit 2))
 (.seq (.block 3 (.seq (.reg false r102_10 [1, 4, 5, 6, 9, 23, 24, 25, 30, 31, 32])
 (.seq (.reg false r102_11 [1, 4, 5, 6, 9, 23, 24, 25, 30, 31, 32, 39])
 (.cond 39 (.reg true r102_12 [1, 4, 5, 6, 23, 24, 25, 30, 31, 32]) (.skip)))))
 (.reg false r102_13 [1, 4, 5, 6, 23, 24, 25, 30, 31, 32])))
def r102_14 : List MOper := [o1 53 (.bin .add (.t 25) (.i 1)),
  o1 25 (.mov (.t 53))]
def b102_1 : MCode := .seq (.reg false r102_6 [1, 4, 5, 23, 24, 25, 26])
 (.seq (.cond 26 (.skip) (.exit 0))
 (.seq (.block 1 (.seq (.reg false r102_7 [1, 4, 5, 6, 7, 23, 24, 25])
 (.seq (.reg false r102_8 [1, 4, 5, 6, 23, 24, 25, 30, 31, 32])
 (.block 2 (.loop [1, 4, 5, 6, 23, 24, 25, 30, 31, 32] b102_2)))))
 (.reg false r102_14 [1, 4, 5, 23, 24, 25])))
def r102_15 : List MOper := [o1 54 (.ld true 2 (.t 5)),
  n1 (.st 2 (.t 4) (.t 54))]
def c102 : MCode := .seq (.reg false r102_1 [1, 2, 4])
 (.seq (.seq (.reg false r102_2 [1, 2, 4, 12])
 (.cond 12 (.seq (.reg false r102_3 [4])
 (.ret)) (.skip)))
 (.seq (.reg true r102_4 [1, 2, 4, 5])
 (.seq (.seq (.reg false r102_5 [1, 4, 5, 23, 24, 25])
 (.block 0 (.loop [1, 4, 5, 23, 24, 25] b102_1)))
 (.seq (.reg false r102_15 [4])
 (.ret)))))
def m102 : MFunc := ⟨1, [.cell 4 true 2], c102⟩
def r103_1 : List MOper := [o1 7 (.mov (.c (.bool false)))]
def q103_2 : List MOper := [o1 8 (.fld 0 (.t 2)),
  ox (some 9) none .R false (.ld false 1 (.t 8)),
  o1 10 (.mov (.t 0)),
  o1 11 (.ixs 1 (.t 9) (.t 10)),
  ox (some 12) none .R false (.ld false 1 (.t 11)),
  ox (some 13) none .R false (.ld false 1 (.t 3)),
  o1 14 (.bin .neq (.t 12) (.t 13)),
  o1 15 (.mov (.t 14)),
  o2 16 15 false (.mov (.t 0)),
  ox (some 17) (some (15, false)) .R false (.ld false 1 (.t 4)),
  o2 18 15 false (.len (.t 17)),
  o2 19 15 false (.bin .lss (.t 16) (.t 18)),
  o2 20 15 false (.mov (.t 19)),
  ox (some 21) (some (20, true)) .R false (.ld false 1 (.t 4)),
  o2 22 20 true (.mov (.t 0)),
  o2 23 20 true (.ixs 1 (.t 21) (.t 22)),
  ox (some 24) (some (20, true)) .R false (.ld false 1 (.t 23)),
  o2 25 20 true (.mov (.t 1)),
  o2 26 20 true (.bin .eql (.t 24) (.t 25)),
  o2 27 15 false (.pick (.t 20) (.t 26) (.c (.bool false))),
  o1 28 (.pick (.t 15) (.c (.bool true)) (.t 27)),
  o1 7 (.mov (.t 28))]
def r103_2 : List MOper := q103_2
def c103 : MCode := .seq (.reg false r103_1 [0, 1, 2, 3, 4])
 (.seq (.reg true r103_2 [7])
 (.ret))
def m103 : MFunc := ⟨1, [.tmp 7], c103⟩
def r104_1 : List MOper := [o1 4 (.ld false 1 (.t 1)),
  o1 5 (.mov (.t 0)),
  o1 6 (.ixs 1 (.t 4) (.t 5)),
  o1 7 (.ld false 1 (.t 6)),
  o1 8 (.not (.t 7))]
def r104_2 : List MOper := [o1 9 (.ld false 1 (.t 1)),
  o1 10 (.mov (.t 0)),
  o1 11 (.ixs 1 (.t 9) (.t 10)),
  n1 (.st 1 (.t 11) (.c (.bool true)))]
def r104_3 : List MOper := [o1 12 (.ld false 1 (.t 2)),
  o1 13 (.mov (.t 0)),
  o1 14 (.bsl false 1 [(.t 13)]),
  o1 15 (.app 1 (.t 12) (.t 14)),
  n1 (.st 1 (.t 2) (.t 15))]
def c104 : MCode := .seq (.reg false r104_1 [0, 1, 2, 8])
 (.cond 8 (.seq (.reg false r104_2 [0, 2])
 (.reg false r104_3 [])) (.skip))
def m104 : MFunc := ⟨0, [], c104⟩
def r105_1 : List MOper := [o1 2 (.box (.t 0)),
  o1 4 (.mov (.c (.fz .isnil 1 [])))]
def r105_2 : List MOper := [o1 5 (.mov (.t 1)),
  o1 6 (.len (.t 5)),
  o1 7 (.bin .eql (.t 6) (.i 0))]
def r105_3 : List MOper := [o1 8 (.ld true 2 (.t 2)),
  o1 9 (.call 41 [(.t 8), (.c (.fz .isnil 1 []))]),
  o1 10 (.bsl false 1 [(.t 9)]),
  o1 4 (.mov (.t 10))]
def r105_4 : List MOper := [o1 11 (.mov (.t 1)),
  o1 4 (.mov (.t 11))]
def c105 : MCode := .seq (.reg false r105_1 [1, 2])
 (.seq (.seq (.reg false r105_2 [1, 2, 7])
 (.cond 7 (.seq (.reg false r105_3 [4])
 (.ret)) (.skip)))
 (.seq (.reg false r105_4 [4])
 (.ret)))
def m105 : MFunc := ⟨3, [.tmp 4], c105⟩
def r106_1 : List MOper := [o1 13 (.mov (.t 0)),
  o1 14 (.bsl false 1 [(.i (-1))]),
  o1 15 (.mov (.t 0)),
  o1 16 (.nilck (.t 15)),
  o1 17 (.fld 3 (.t 16)),
  o1 18 (.ld false 1 (.t 17)),
  o1 19 (.len (.t 18)),
  o1 20 (.call 1147 [(.t 14), (.t 19)]),
  o1 21 (.nilck (.t 13)),
  o1 22 (.fld 4 (.t 21)),
  n1 (.st 1 (.t 22) (.t 20))]
def q106_2 : List MOper := [o1 23 (.mov (.t 0)),
  o1 24 (.nilck (.t 23)),
  o1 25 (.fld 0 (.t 24)),
  ox (some 26) none .R false (.ld true 2 (.t 25)),
  o1 27 (.mov (.t 1)),
  o1 28 (.mov (.t 0)),
  o1 29 (.mov (.t 0)),
  o1 30 (.nilck (.t 29)),
  o1 31 (.fld 3 (.t 30)),
  ox (some 32) none .R false (.ld false 1 (.t 31)),
  ox (some 33) none .R false (.call 148 [(.t 28), (.t 32)]),
  ox (some 34) none .R false (.call 40 [(.t 26), (.t 27), (.t 33)]),
  o1 4 (.mov (.t 34))]
def r106_2 : List MOper := q106_2
def q106_3 : List MOper := [o1 35 (.mov (.t 0)),
  o1 36 (.mov (.t 0)),
  o1 37 (.nilck (.t 36)),
  o1 38 (.fld 0 (.t 37)),
  ox (some 39) none .R false (.ld true 2 (.t 38)),
  o1 40 (.mov (.t 4)),
  o1 41 (.mov (.t 0)),
  o1 42 (.nilck (.t 41)),
  o1 43 (.fld 3 (.t 42)),
  ox (some 44) none .R false (.ld false 1 (.t 43)),
  ox (some 45) none .R false (.call 40 [(.t 39), (.t 40), (.t 44)]),
  o1 46 (.mov (.t 0)),
  o1 47 (.nilck (.t 46)),
  o1 48 (.fld 3 (.t 47)),
  ox (some 49) none .R false (.ld false 1 (.t 48)),
  ox (some 50) none .L false (.call 149 [(.t 35), (.t 45), (.t 49)])]
def r106_3 : List MOper := q106_3
def r106_4 : List MOper := [o1 51 (.mov (.t 0)),
  o1 52 (.nilck (.t 51)),
  o1 53 (.fld 0 (.t 52)),
  o1 54 (.ld true 2 (.t 53)),
  o1 55 (.call 40 [(.t 54), (.c (.fz .isnil 1 [])), (.c (.fz .isnil 1 []))]),
  o1 5 (.mov (.t 55))]
def r106_5 : List MOper := [o1 56 (.mov (.t 0)),
  o1 57 (.mkfn 150 [(.t 56)] []),
  o1 6 (.mov (.t 57))]
def r106_6 : List MOper := [o1 58 (.mov (.t 0)),
  o1 59 (.mov (.t 5)),
  o1 60 (.call 148 [(.t 58), (.t 59)]),
  o1 7 (.mov (.t 60))]
def r106_7 : List MOper := [o1 61 (.mov (.t 0)),
  o1 62 (.nilck (.t 61)),
  o1 63 (.fld 0 (.t 62)),
  o1 64 (.ld true 2 (.t 63)),
  o1 65 (.mov (.t 4)),
  o1 66 (.mov (.t 7)),
  o1 67 (.call 68 [(.t 64), (.t 65), (.t 66)]),
  o1 8 (.mov (.t 67))]
def r106_8 : List MOper := [o1 68 (.mov (.t 0)),
  o1 69 (.mov (.t 7)),
  o1 70 (.mov (.t 5)),
  o1 71 (.call 149 [(.t 68), (.t 69), (.t 70)])]
def r106_9 : List MOper := [o1 9 (.mov (.c (.fz .isnil 1 [])))]
def r106_10 : List MOper := [o1 72 (.mov (.t 0)),
  o1 73 (.nilck (.t 72)),
  o1 74 (.fld 2 (.t 73)),
  o1 75 (.ld false 1 (.t 74)),
  o1 76 (.len (.t 75)),
  o1 77 (.mov (.i 0))]
def r106_11 : List MOper := [o1 78 (.bin .lss (.t 77) (.t 76))]
def r106_12 : List MOper := [o1 79 (.ixs 1 (.t 75) (.t 77)),
  o1 80 (.ld false 1 (.t 79)),
  o1 11 (.mov (.t 80))]
def r106_13 : List MOper := [o1 81 (.mov (.t 6)),
  o1 82 (.mov (.t 8)),
  o1 83 (.mov (.t 11)),
  o1 84 (.callv (.t 81) [(.t 82), (.t 83)]),
  o1 12 (.mov (.t 84))]
def r106_14 : List MOper := [o1 85 (.mov (.t 0)),
  o1 86 (.mov (.t 12)),
  o1 87 (.mov (.t 12)),
  o1 88 (.call 149 [(.t 85), (.t 86), (.t 87)])]
def r106_15 : List MOper := [o1 89 (.mov (.t 0)),
  o1 90 (.nilck (.t 89)),
  o1 91 (.fld 0 (.t 90)),
  o1 92 (.ld true 2 (.t 91)),
  o1 93 (.mov (.t 9)),
  o1 94 (.mov (.t 12)),
  o1 95 (.call 68 [(.t 92), (.t 93), (.t 94)]),
  o1 9 (.mov (.t 95))]
def r106_16 : List MOper := [o1 96 (.bin .add (.t 77) (.i 1)),
  o1 77 (.mov (.t 96))]
def b106_2 : MCode := .seq (.reg false r106_11 [0, 4, 5, 6, 8, 9, 75, 76, 77, 78])
 (.seq (.cond 78 (.skip) (.exit 2))
 (.seq (.block 3 (.seq (.reg false r106_12 [0, 4, 5, 6, 8, 9, 11, 75, 76, 77])
 (.seq (.reg false r106_13 [0, 4, 5, 6, 8, 9, 12, 75, 76, 77])
 (.seq (.reg false r106_14 [0, 4, 5, 6, 8, 9, 12, 75, 76, 77])
 (.reg false r106_15 [0, 4, 5, 6, 8, 9, 75, 76, 77])))))
 (.reg false r106_16 [0, 4, 5, 6, 8, 9, 75, 76, 77])))
def r106_17 : List MOper := [o1 97 (.mov (.t 9)),
  o1 98 (.mov (.t 5)),
  o1 99 (.call 96 [(.t 97), (.t 98)])]
def r106_18 : List MOper := [o1 100 (.mov (.t 9)),
  o1 5 (.mov (.t 100))]
def b106_1 : MCode := .block 1 (.seq (.reg false r106_6 [0, 4, 5, 6, 7])
 (.seq (.reg false r106_7 [0, 4, 5, 6, 7, 8])
 (.seq (.reg false r106_8 [0, 4, 5, 6, 8])
 (.seq (.reg false r106_9 [0, 4, 5, 6, 8, 9])
 (.seq (.seq (.reg false r106_10 [0, 4, 5, 6, 8, 9, 75, 76, 77])
 (.block 2 (.loop [0, 4, 5, 6, 8, 9, 75, 76, 77] b106_2)))
 (.seq (.seq (.reg false r106_17 [0, 4, 6, 9, 99])
 (.cond 99 (.ret) (.skip)))
 (.reg false r106_18 [0, 4, 5, 6])))))))
def c106 : MCode := .seq (.reg false r106_1 [0, 1])
 (.seq (.reg true r106_2 [0, 4])
 (.seq (.reg true r106_3 [0, 4])
 (.seq (.reg false r106_4 [0, 4, 5])
 (.seq (.reg false r106_5 [0, 4, 5, 6])
 (.block 0 (.loop [0, 4, 5, 6] b106_1))))))
def m106 : MFunc := ⟨0, [], c106⟩
def r107_1 : List MOper := [o1 6 (.mov (.i 0))]
def r107_2 : List MOper := [o1 7 (.mov (.t 0)),
  o1 8 (.mov (.t 2)),
  o1 9 (.ixs 1 (.t 7) (.t 8)),
  o1 10 (.ld false 1 (.t 9)),
  o1 11 (.mov (.t 1)),
  o1 12 (.call 151 [(.t 10), (.t 11)])]
def r107_3 : List MOper := [o1 13 (.mov (.t 2)),
  o1 14 (.bin .add (.t 13) (.i 1)),
  o1 15 (.mov (.t 0)),
  o1 16 (.len (.t 15)),
  o1 17 (.bin .rem (.t 14) (.t 16)),
  o1 6 (.mov (.t 17))]
def r107_4 : List MOper := [o1 18 (.mov (.t 2)),
  o1 6 (.mov (.t 18))]
def c107 : MCode := .seq (.reg false r107_1 [0, 1, 2])
 (.seq (.seq (.reg false r107_2 [0, 2, 12])
 (.cond 12 (.seq (.reg false r107_3 [6])
 (.ret)) (.skip)))
 (.seq (.reg false r107_4 [6])
 (.ret)))
def m107 : MFunc := ⟨3, [.tmp 6], c107⟩
def r108_1 : List MOper := [o1 2 (.box (.t 0)),
  o1 4 (.mov (.c (.fz .isnil 1 [])))]
def r108_2 : List MOper := [o1 7 (.fld 0 (.t 2)),
  o1 8 (.ld false 1 (.t 7)),
  o1 9 (.len (.t 8)),
  o1 10 (.mksl 1 (.bool false) (.t 9)),
  o1 5 (.mov (.t 10))]
def r108_3 : List MOper := [o1 11 (.mov (.t 5)),
  o1 12 (.len (.t 11)),
  o1 13 (.mov (.i 0))]
def r108_4 : List MOper := [o1 14 (.bin .lss (.t 13) (.t 12))]
def r108_5 : List MOper := [o1 15 (.mov (.t 13)),
  o1 6 (.mov (.t 15))]
def r108_6 : List MOper := [o1 16 (.mov (.t 5)),
  o1 17 (.mov (.t 6)),
  o1 18 (.mov (.t 1)),
  o1 19 (.mov (.t 6)),
  o1 20 (.call 48 [(.t 18), (.t 19)]),
  o1 21 (.not (.t 20)),
  o1 22 (.ixs 1 (.t 16) (.t 17)),
  n1 (.st 1 (.t 22) (.t 21))]
def r108_7 : List MOper := [o1 23 (.bin .add (.t 13) (.i 1)),
  o1 13 (.mov (.t 23))]
def b108_1 : MCode := .seq (.reg false r108_4 [1, 5, 12, 13, 14])
 (.seq (.cond 14 (.skip) (.exit 0))
 (.seq (.block 1 (.seq (.reg false r108_5 [1, 5, 6, 12, 13])
 (.reg false r108_6 [1, 5, 12, 13])))
 (.reg false r108_7 [1, 5, 12, 13])))
def r108_8 : List MOper := [o1 24 (.mov (.t 5)),
  o1 4 (.mov (.t 24))]
def c108 : MCode := .seq (.reg false r108_1 [1, 2])
 (.seq (.reg false r108_2 [1, 5])
 (.seq (.seq (.reg false r108_3 [1, 5, 12, 13])
 (.block 0 (.loop [1, 5, 12, 13] b108_1)))
 (.seq (.reg false r108_8 [4])
 (.ret))))
def m108 : MFunc := ⟨3, [.tmp 4], c108⟩
def r109_1 : List MOper := [o1 2 (.box (.t 0)),
  o1 4 (.mov (.c (.fz .isnil 1 [])))]
def r109_2 : List MOper := [o1 5 (.mov (.t 1)),
  o1 6 (.len (.t 5)),
  o1 7 (.bin .eql (.t 6) (.i 0))]
def r109_3 : List MOper := [o1 8 (.ld true 2 (.t 2)),
  o1 9 (.call 108 [(.t 8), (.c (.fz .isnil 1 []))]),
  o1 10 (.bsl false 1 [(.t 9)]),
  o1 4 (.mov (.t 10))]
def r109_4 : List MOper := [o1 11 (.mov (.t 1)),
  o1 4 (.mov (.t 11))]
def c109 : MCode := .seq (.reg false r109_1 [1, 2])
 (.seq (.seq (.reg false r109_2 [1, 2, 7])
 (.cond 7 (.seq (.reg false r109_3 [4])
 (.ret)) (.skip)))
 (.seq (.reg false r109_4 [4])
 (.ret)))
def m109 : MFunc := ⟨3, [.tmp 4], c109⟩
def r110_1 : List MOper := [o1 4 (.mov (.c (.fz .isnil 1 [])))]
def r110_2 : List MOper := [o1 7 (.mov (.t 0)),
  o1 8 (.len (.t 7)),
  o1 9 (.mksl 1 (.bool false) (.t 8)),
  o1 5 (.mov (.t 9))]
def r110_3 : List MOper := [o1 10 (.mov (.t 5)),
  o1 11 (.len (.t 10)),
  o1 12 (.mov (.i 0))]
def r110_4 : List MOper := [o1 13 (.bin .lss (.t 12) (.t 11))]
def r110_5 : List MOper := [o1 14 (.mov (.t 12)),
  o1 6 (.mov (.t 14))]
def r110_6 : List MOper := [o1 15 (.mov (.t 5)),
  o1 16 (.mov (.t 6)),
  o1 17 (.mov (.t 0)),
  o1 18 (.mov (.t 6)),
  o1 19 (.ixs 1 (.t 17) (.t 18)),
  o1 20 (.ld false 1 (.t 19)),
  o1 21 (.mov (.t 20)),
  o2 22 21 false (.mov (.t 1)),
  o2 23 21 false (.mov (.t 6)),
  o2 24 21 false (.call 48 [(.t 22), (.t 23)]),
  o1 25 (.pick (.t 21) (.c (.bool true)) (.t 24)),
  o1 26 (.ixs 1 (.t 15) (.t 16)),
  n1 (.st 1 (.t 26) (.t 25))]
def r110_7 : List MOper := [o1 27 (.bin .add (.t 12) (.i 1)),
  o1 12 (.mov (.t 27))]
def b110_1 : MCode := .seq (.reg false r110_4 [0, 1, 5, 11, 12, 13])
 (.seq (.cond 13 (.skip) (.exit 0))
 (.seq (.block 1 (.seq (.reg false r110_5 [0, 1, 5, 6, 11, 12])
 (.reg false r110_6 [0, 1, 5, 11, 12])))
 (.reg false r110_7 [0, 1, 5, 11, 12])))
def r110_8 : List MOper := [o1 28 (.mov (.t 5)),
  o1 4 (.mov (.t 28))]
def c110 : MCode := .seq (.reg false r110_1 [0, 1])
 (.seq (.reg false r110_2 [0, 1, 5])
 (.seq (.seq (.reg false r110_3 [0, 1, 5, 11, 12])
 (.block 0 (.loop [0, 1, 5, 11, 12] b110_1)))
 (.seq (.reg false r110_8 [4])
 (.ret))))
def m110 : MFunc := ⟨3, [.tmp 4], c110⟩
def r111_1 : List MOper := [o1 4 (.mov (.c (.fz .isnil 1 [])))]
def r111_2 : List MOper := [o1 7 (.mov (.t 0)),
  o1 8 (.len (.t 7)),
  o1 9 (.mksl 1 (.bool false) (.t 8)),
  o1 5 (.mov (.t 9))]
def r111_3 : List MOper := [o1 10 (.mov (.t 5)),
  o1 11 (.len (.t 10)),
  o1 12 (.mov (.i 0))]
def r111_4 : List MOper := [o1 13 (.bin .lss (.t 12) (.t 11))]
def r111_5 : List MOper := [o1 14 (.mov (.t 12)),
  o1 6 (.mov (.t 14))]
def r111_6 : List MOper := [o1 15 (.mov (.t 5)),
  o1 16 (.mov (.t 6)),
  o1 17 (.mov (.t 0)),
  o1 18 (.mov (.t 6)),
  o1 19 (.ixs 1 (.t 17) (.t 18)),
  o1 20 (.ld false 1 (.t 19)),
  o1 21 (.mov (.t 20)),
  o2 22 21 true (.mov (.t 1)),
  o2 23 21 true (.mov (.t 6)),
  o2 24 21 true (.call 48 [(.t 22), (.t 23)]),
  o1 25 (.pick (.t 21) (.t 24) (.c (.bool false))),
  o1 26 (.ixs 1 (.t 15) (.t 16)),
  n1 (.st 1 (.t 26) (.t 25))]
def r111_7 : List MOper := [o1 27 (.bin .add (.t 12) (.i 1)),
  o1 12 (.mov (.t 27))]
def b111_1 : MCode := .seq (.reg false r111_4 [0, 1, 5, 11, 12, 13])
 (.seq (.cond 13 (.skip) (.exit 0))
 (.seq (.block 1 (.seq (.reg false r111_5 [0, 1, 5, 6, 11, 12])
 (.reg false r111_6 [0, 1, 5, 11, 12])))
 (.reg false r111_7 [0, 1, 5, 11, 12])))
def r111_8 : List MOper := [o1 28 (.mov (.t 5)),
  o1 4 (.mov (.t 28))]
def c111 : MCode := .seq (.reg false r111_1 [0, 1])
 (.seq (.reg false r111_2 [0, 1, 5])
 (.seq (.seq (.reg false r111_3 [0, 1, 5, 11, 12])
 (.block 0 (.loop [0, 1, 5, 11, 12] b111_1)))
 (.seq (.reg false r111_8 [4])
 (.ret))))
def m111 : MFunc := ⟨3, [.tmp 4], c111⟩
def r112_1 : List MOper := [o1 2 (.box (.t 0)),
  o1 4 (.mov (.c (.fz .isnil 1 [])))]
def r112_2 : List MOper := [o1 7 (.fld 0 (.t 2)),
  o1 8 (.ld false 1 (.t 7)),
  o1 9 (.len (.t 8)),
  o1 10 (.mksl 1 (.bool false) (.t 9)),
  o1 5 (.mov (.t 10))]
def r112_3 : List MOper := [o1 11 (.mov (.t 5)),
  o1 12 (.len (.t 11)),
  o1 13 (.mov (.i 0))]
def r112_4 : List MOper := [o1 14 (.bin .lss (.t 13) (.t 12))]
def r112_5 : List MOper := [o1 15 (.mov (.t 13)),
  o1 6 (.mov (.t 15))]
def r112_6 : List MOper := [o1 16 (.mov (.t 5)),
  o1 17 (.mov (.t 6)),
  o1 18 (.mov (.t 1)),
  o1 19 (.mov (.t 6)),
  o1 20 (.call 48 [(.t 18), (.t 19)]),
  o1 21 (.ixs 1 (.t 16) (.t 17)),
  n1 (.st 1 (.t 21) (.t 20))]
def r112_7 : List MOper := [o1 22 (.bin .add (.t 13) (.i 1)),
  o1 13 (.mov (.t 22))]
def b112_1 : MCode := .seq (.reg false r112_4 [1, 5, 12, 13, 14])
 (.seq (.cond 14 (.skip) (.exit 0))
 (.seq (.block 1 (.seq (.reg false r112_5 [1, 5, 6, 12, 13])
 (.reg false r112_6 [1, 5, 12, 13])))
 (.reg false r112_7 [1, 5, 12, 13])))
def r112_8 : List MOper := [o1 23 (.mov (.t 5)),
  o1 4 (.mov (.t 23))]
def c112 : MCode := .seq (.reg false r112_1 [1, 2])
 (.seq (.reg false r112_2 [1, 5])
 (.seq (.seq (.reg false r112_3 [1, 5, 12, 13])
 (.block 0 (.loop [1, 5, 12, 13] b112_1)))
 (.seq (.reg false r112_8 [4])
 (.ret))))
def m112 : MFunc := ⟨3, [.tmp 4], c112⟩
def r113_1 : List MOper := [o1 3 (.box (.t 0)),
  o1 6 (.mov (.c (.fz .isnil 1 [])))]
def r113_2 : List MOper := [o1 14 (.ld true 2 (.t 3)),
  o1 15 (.call 35 [(.t 14)]),
  o1 16 (.bin .neq (.t 15) (.i 0)),
  o1 17 (.mov (.t 16)),
  o2 18 17 false (.mov (.t 1)),
  o2 19 17 false (.call 122 [(.t 18)]),
  o2 20 17 false (.not (.t 19)),
  o1 21 (.pick (.t 17) (.c (.bool true)) (.t 20))]
def r113_3 : List MOper := [o1 6 (.mov (.c (.fz .isnil 1 [])))]
def r113_4 : List MOper := [o1 22 (.fld 0 (.t 3)),
  o1 23 (.ld false 1 (.t 22)),
  o1 24 (.len (.t 23)),
  o1 25 (.mksl 1 (.bool false) (.t 24)),
  o1 7 (.mov (.t 25))]
def r113_5 : List MOper := [o1 26 (.fld 1 (.t 3)),
  o1 27 (.ld false 1 (.t 26)),
  o1 28 (.len (.t 27)),
  o1 29 (.mov (.i 0))]
def r113_6 : List MOper := [o1 30 (.bin .lss (.t 29) (.t 28))]
def r113_7 : List MOper := [o1 31 (.mov (.t 29)),
  o1 32 (.ixs 1 (.t 27) (.t 29)),
  o1 33 (.ld false 1 (.t 32)),
  o1 8 (.mov (.t 31)),
  o1 9 (.mov (.t 33))]
def r113_8 : List MOper := [o1 10 (.mov (.c (.bool false))),
  o1 11 (.mov (.c (.bool true)))]
def r113_9 : List MOper := [o1 34 (.mov (.t 9)),
  o1 35 (.len (.t 34)),
  o1 36 (.mov (.i 0))]
def r113_10 : List MOper := [o1 37 (.bin .lss (.t 36) (.t 35))]
def r113_11 : List MOper := [o1 38 (.ixs 1 (.t 34) (.t 36)),
  o1 39 (.ld false 1 (.t 38)),
  o1 13 (.mov (.t 39))]
def r113_12 : List MOper := [o1 40 (.mov (.t 10)),
  o1 41 (.mov (.t 40)),
  o2 42 41 false (.mov (.t 2)),
  o2 43 41 false (.mov (.t 13)),
  o2 44 41 false (.call 48 [(.t 42), (.t 43)]),
  o1 45 (.pick (.t 41) (.c (.bool true)) (.t 44)),
  o1 10 (.mov (.t 45))]
def r113_13 : List MOper := [o1 46 (.mov (.t 11)),
  o1 47 (.mov (.t 46)),
  o2 48 47 true (.mov (.t 2)),
  o2 49 47 true (.mov (.t 13)),
  o2 50 47 true (.call 48 [(.t 48), (.t 49)]),
  o1 51 (.pick (.t 47) (.t 50) (.c (.bool false))),
  o1 11 (.mov (.t 51))]
def r113_14 : List MOper := [o1 52 (.bin .add (.t 36) (.i 1)),
  o1 36 (.mov (.t 52))]
def b113_2 : MCode := .seq (.reg false r113_10 [1, 2, 3, 7, 8, 10, 11, 27, 28, 29, 34, 35, 36, 37])
 (.seq (.cond 37 (.skip) (.exit 2))
 (.seq (.block 3 (.seq (.reg false r113_11 [1, 2, 3, 7, 8, 10, 11, 13, 27, 28, 29, 34, 35, 36])
 (.seq (.reg false r113_12 [1, 2, 3, 7, 8, 10, 11, 13, 27, 28, 29, 34, 35, 36])
 (.reg false r113_13 [1, 2, 3, 7, 8, 10, 11, 27, 28, 29, 34, 35, 36]))))
 (.reg false r113_14 [1, 2, 3, 7, 8, 10, 11, 27, 28, 29, 34, 35, 36])))
def r113_15 : List MOper := [o1 53 (.mov (.t 7)),
  o1 54 (.mov (.t 8)),
  o1 55 (.fld 0 (.t 3)),
  o1 56 (.ld false 1 (.t 55)),
  o1 57 (.mov (.t 8)),
  o1 58 (.ixs 1 (.t 56) (.t 57)),
  o1 59 (.ld false 1 (.t 58)),
  o1 60 (.mov (.t 1)),
  o1 61 (.bin .eql (.t 59) (.t 60)),
  o1 62 (.mov (.t 61)),
  o2 63 62 true (.mov (.t 10)),
  o1 64 (.pick (.t 62) (.t 63) (.c (.bool false))),
  o1 65 (.mov (.t 64)),
  o2 66 65 false (.fld 0 (.t 3)),
  o2 67 65 false (.ld false 1 (.t 66)),
  o2 68 65 false (.mov (.t 8)),
  o2 69 65 false (.ixs 1 (.t 67) (.t 68)),
  o2 70 65 false (.ld false 1 (.t 69)),
  o2 71 65 false (.mov (.t 1)),
  o2 72 65 false (.bin .neq (.t 70) (.t 71)),
  o2 73 65 false (.mov (.t 72)),
  o2 74 73 true (.mov (.t 11)),
  o2 75 65 false (.pick (.t 73) (.t 74) (.c (.bool false))),
  o1 76 (.pick (.t 65) (.c (.bool true)) (.t 75)),
  o1 77 (.ixs 1 (.t 53) (.t 54)),
  n1 (.st 1 (.t 77) (.t 76))]
def r113_16 : List MOper := [o1 78 (.bin .add (.t 29) (.i 1)),
  o1 29 (.mov (.t 78))]
def b113_1 : MCode := .seq (.reg false r113_6 [1, 2, 3, 7, 27, 28, 29, 30])
 (.seq (.cond 30 (.skip) (.exit 0))
 (.seq (.block 1 (.seq (.reg false r113_7 [1, 2, 3, 7, 8, 9, 27, 28, 29])
 (.seq (.reg false r113_8 [1, 2, 3, 7, 8, 9, 10, 11, 27, 28, 29])
 (.seq (.seq (.reg false r113_9 [1, 2, 3, 7, 8, 10, 11, 27, 28, 29, 34, 35, 36])
 (.block 2 (.loop [1, 2, 3, 7, 8, 10, 11, 27, 28, 29, 34, 35, 36] b113_2)))
 (.reg false r113_15 [1, 2, 3, 7, 27, 28, 29])))))
 (.reg false r113_16 [1, 2, 3, 7, 27, 28, 29])))
def r113_17 : List MOper := [o1 79 (.mov (.t 7)),
  o1 6 (.mov (.t 79))]
def c113 : MCode := .seq (.reg false r113_1 [1, 2, 3])
 (.seq (.seq (.reg false r113_2 [1, 2, 3, 21])
 (.cond 21 (.seq (.reg false r113_3 [6])
 (.ret)) (.skip)))
 (.seq (.reg false r113_4 [1, 2, 3, 7])
 (.seq (.seq (.reg false r113_5 [1, 2, 3, 7, 27, 28, 29])
 (.block 0 (.loop [1, 2, 3, 7, 27, 28, 29] b113_1)))
 (.seq (.reg false r113_17 [6])
 (.ret)))))
def m113 : MFunc := ⟨3, [.tmp 6], c113⟩
def r114_1 : List MOper := [o1 2 (.mov (.c (.bool false)))]
def r114_2 : List MOper := [o1 7 (.mov (.t 0)),
  o1 8 (.len (.t 7)),
  o1 9 (.bin .gtr (.t 8) (.i 12000))]
def r114_3 : List MOper := [o1 2 (.mov (.c (.bool false)))]
def r114_4 : List MOper := [o1 10 (.mov (.t 0)),
  o1 11 (.len (.t 10)),
  o1 12 (.mov (.i 0))]
def r114_5 : List MOper := [o1 13 (.bin .lss (.t 12) (.t 11))]
def r114_6 : List MOper := [o1 14 (.ixs 1 (.t 10) (.t 12)),
  o1 15 (.ld false 1 (.t 14)),
  o1 4 (.mov (.t 15))]
def r114_7 : List MOper := [o1 16 (.mov (.t 4)),
  o1 17 (.len (.t 16)),
  o1 18 (.mov (.i 0))]
def r114_8 : List MOper := [o1 19 (.bin .lss (.t 18) (.t 17))]
def r114_9 : List MOper := [o1 20 (.ixs 1 (.t 16) (.t 18)),
  o1 21 (.ld false 1 (.t 20)),
  o1 6 (.mov (.t 21))]
def r114_10 : List MOper := [o1 22 (.mov (.t 6)),
  o1 23 (.bin .lss (.t 22) (.i 0)),
  o1 24 (.mov (.t 23)),
  o2 25 24 false (.mov (.t 6)),
  o2 26 24 false (.mov (.t 0)),
  o2 27 24 false (.len (.t 26)),
  o2 28 24 false (.bin .geq (.t 25) (.t 27)),
  o1 29 (.pick (.t 24) (.c (.bool true)) (.t 28))]
def r114_11 : List MOper := [o1 2 (.mov (.c (.bool false)))]
def r114_12 : List MOper := [o1 30 (.bin .add (.t 18) (.i 1)),
  o1 18 (.mov (.t 30))]
def b114_2 : MCode := .seq (.reg false r114_8 [0, 10, 11, 12, 16, 17, 18, 19])
 (.seq (.cond 19 (.skip) (.exit 2))
 (.seq (.block 3 (.seq (.reg false r114_9 [0, 6, 10, 11, 12, 16, 17, 18])
 (.seq (.reg false r114_10 [0, 10, 11, 12, 16, 17, 18, 29])
 (.cond 29 (.seq (.reg false r114_11 [2])
 (.ret)) (.skip)))))
 (.reg false r114_12 [0, 10, 11, 12, 16, 17, 18])))
def r114_13 : List MOper := [o1 31 (.bin .add (.t 12) (.i 1)),
  o1 12 (.mov (.t 31))]
def b114_1 : MCode := .seq (.reg false r114_5 [0, 10, 11, 12, 13])
 (.seq (.cond 13 (.skip) (.exit 0))
 (.seq (.block 1 (.seq (.reg false r114_6 [0, 4, 10, 11, 12])
 (.seq (.reg false r114_7 [0, 10, 11, 12, 16, 17, 18])
 (.block 2 (.loop [0, 10, 11, 12, 16, 17, 18] b114_2)))))
 (.reg false r114_13 [0, 10, 11, 12])))
def r114_14 : List MOper := [o1 2 (.mov (.c (.bool true)))]
def c114 : MCode := .seq (.reg false r114_1 [0])
 (.seq (.seq (.reg false r114_2 [0, 9])
 (.cond 9 (.seq (.reg false r114_3 [2])
 (.ret)) (.skip)))
 (.seq (.seq (.reg false r114_4 [0, 10, 11, 12])
 (.block 0 (.loop [0, 10, 11, 12] b114_1)))
 (.seq (.reg false r114_14 [2])
 (.ret))))
def m114 : MFunc := ⟨3, [.tmp 2], c114⟩
end Go.Proofs.Ytlilfiekkaolkaa.Am
