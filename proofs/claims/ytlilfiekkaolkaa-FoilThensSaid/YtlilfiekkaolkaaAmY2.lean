/- The functions as code of the abstract machine (printed by gen.py), part 2. -/
import Derived.Test.YtlilfiekkaolkaaAmX
set_option linter.unusedVariables false
namespace Go.Proofs.Ytlilfiekkaolkaa.Am
open Go
def r35_1 : List MOper := [o1 1 (.box (.t 0)),
  o1 2 (.mov (.i 0))]
def r35_2 : List MOper := [o1 5 (.fld 0 (.t 1)),
  o1 6 (.ld false 1 (.t 5)),
  o1 7 (.len (.t 6)),
  o1 3 (.mov (.t 7))]
def r35_3 : List MOper := [o1 8 (.mov (.t 3)),
  o1 9 (.bin .gtr (.t 8) (.i 3000))]
def r35_4 : List MOper := [o1 2 (.mov (.i 7))]
def r35_5 : List MOper := [o1 10 (.fld 1 (.t 1)),
  o1 11 (.ld false 1 (.t 10)),
  o1 12 (.len (.t 11)),
  o1 13 (.mov (.t 3)),
  o1 14 (.bin .neq (.t 12) (.t 13))]
def r35_6 : List MOper := [o1 2 (.mov (.i 1))]
def r35_7 : List MOper := [o1 15 (.mov (.t 3)),
  o1 16 (.mov (.i 0))]
def r35_8 : List MOper := [o1 17 (.bin .lss (.t 16) (.t 15))]
def r35_9 : List MOper := [o1 18 (.mov (.t 16)),
  o1 4 (.mov (.t 18))]
def r35_10 : List MOper := [o1 19 (.fld 0 (.t 1)),
  o1 20 (.ld false 1 (.t 19)),
  o1 21 (.mov (.t 4)),
  o1 22 (.ixs 1 (.t 20) (.t 21)),
  o1 23 (.ld false 1 (.t 22)),
  o1 24 (.bin .neq (.t 23) (.i 0)),
  o1 25 (.mov (.t 24)),
  o2 26 25 true (.fld 0 (.t 1)),
  o2 27 25 true (.ld false 1 (.t 26)),
  o2 28 25 true (.mov (.t 4)),
  o2 29 25 true (.ixs 1 (.t 27) (.t 28)),
  o2 30 25 true (.ld false 1 (.t 29)),
  o2 31 25 true (.bin .neq (.t 30) (.i 1)),
  o1 32 (.pick (.t 25) (.t 31) (.c (.bool false))),
  o1 33 (.mov (.t 32)),
  o2 34 33 false (.fld 1 (.t 1)),
  o2 35 33 false (.ld false 1 (.t 34)),
  o2 36 33 false (.mov (.t 4)),
  o2 37 33 false (.ixs 1 (.t 35) (.t 36)),
  o2 38 33 false (.ld false 1 (.t 37)),
  o2 39 33 false (.mov (.t 3)),
  o2 40 33 false (.call 94 [(.t 38), (.t 39)]),
  o2 41 33 false (.not (.t 40)),
  o1 42 (.pick (.t 33) (.c (.bool true)) (.t 41))]
def r35_11 : List MOper := [o1 2 (.mov (.i 1))]
def r35_12 : List MOper := [o1 43 (.bin .add (.t 16) (.i 1)),
  o1 16 (.mov (.t 43))]
def b35_1 : MCode := .seq (.reg false r35_8 [1, 3, 15, 16, 17])
 (.seq (.cond 17 (.skip) (.exit 0))
 (.seq (.block 1 (.seq (.reg false r35_9 [1, 3, 4, 15, 16])
 (.seq (.reg false r35_10 [1, 3, 15, 16, 42])
 (.cond 42 (.seq (.reg false r35_11 [2])
 (.ret)) (.skip)))))
 (.reg false r35_12 [1, 3, 15, 16])))
def r35_13 : List MOper := [o1 2 (.mov (.i 0))]
def c35 : MCode := .seq (.reg false r35_1 [1])
 (.seq (.reg false r35_2 [1, 3])
 (.seq (.seq (.reg false r35_3 [1, 3, 9])
 (.cond 9 (.seq (.reg false r35_4 [2])
 (.ret)) (.skip)))
 (.seq (.seq (.reg false r35_5 [1, 3, 14])
 (.cond 14 (.seq (.reg false r35_6 [2])
 (.ret)) (.skip)))
 (.seq (.seq (.reg false r35_7 [1, 3, 15, 16])
 (.block 0 (.loop [1, 3, 15, 16] b35_1)))
 (.seq (.reg false r35_13 [2])
 (.ret))))))
def m35 : MFunc := ⟨3, [.tmp 2], c35⟩
def r36_1 : List MOper := [o1 0 (.mov (.c (.bool false)))]
def r36_2 : List MOper := [o1 5 (.bsl false 1 [(.i 0), (.i 1), (.i 1)]),
  o1 6 (.bsl false 1 [(.i 1)]),
  o1 7 (.bsl false 1 [(.i 0), (.i 2)]),
  o1 8 (.bsl false 1 [(.i 2)]),
  o1 9 (.bsl false 1 [(.t 6), (.t 7), (.t 8)]),
  o1 10 (.build [.fz .isnil 1 [], .fz .isnil 1 []] [] [(0, 1, (.t 5)), (1, 1, (.t 9))]),
  o1 1 (.alloc [.fz .isnil 1 [], .fz .isnil 1 []] []),
  n1 (.st 2 (.t 1) (.t 10))]
def q36_3 : List MOper := [ox (some 11) none .R false (.ld true 2 (.t 1)),
  o1 12 (.bsl false 1 [(.c (.bool true))]),
  ox (some 13) none .R false (.call 37 [(.t 11), (.i 1), (.t 12)]),
  ox (some 14) none .R false (.ld true 2 (.t 1)),
  o1 15 (.bsl false 1 [(.c (.bool true))]),
  ox (some 16) none .R false (.call 70 [(.t 14), (.i 1), (.t 15)]),
  o1 2 (.mov (.t 13)),
  o1 3 (.mov (.t 16))]
def r36_3 : List MOper := q36_3
def r36_4 : List MOper := [o1 17 (.ld true 2 (.t 1)),
  o1 18 (.bsl false 1 [(.c (.bool false)), (.c (.bool false)), (.c (.bool true))]),
  o1 19 (.call 38 [(.t 17), (.i 1), (.t 18)]),
  o1 4 (.mov (.t 19))]
def r36_5 : List MOper := [o1 20 (.mov (.t 2)),
  o1 21 (.len (.t 20)),
  o1 22 (.bin .eql (.t 21) (.i 3)),
  o1 23 (.mov (.t 22)),
  o2 24 23 true (.mov (.t 2)),
  o2 25 23 true (.ixs 1 (.t 24) (.i 0)),
  o2 26 23 true (.ld false 1 (.t 25)),
  o1 27 (.pick (.t 23) (.t 26) (.c (.bool false))),
  o1 28 (.mov (.t 27)),
  o2 29 28 true (.mov (.t 2)),
  o2 30 28 true (.ixs 1 (.t 29) (.i 1)),
  o2 31 28 true (.ld false 1 (.t 30)),
  o1 32 (.pick (.t 28) (.t 31) (.c (.bool false))),
  o1 33 (.mov (.t 32)),
  o2 34 33 true (.mov (.t 2)),
  o2 35 33 true (.ixs 1 (.t 34) (.i 2)),
  o2 36 33 true (.ld false 1 (.t 35)),
  o2 37 33 true (.not (.t 36)),
  o1 38 (.pick (.t 33) (.t 37) (.c (.bool false))),
  o1 39 (.mov (.t 38)),
  o2 40 39 true (.mov (.t 3)),
  o2 41 39 true (.len (.t 40)),
  o2 42 39 true (.bin .eql (.t 41) (.i 3)),
  o1 43 (.pick (.t 39) (.t 42) (.c (.bool false))),
  o1 44 (.mov (.t 43)),
  o2 45 44 true (.mov (.t 3)),
  o2 46 44 true (.ixs 1 (.t 45) (.i 1)),
  o2 47 44 true (.ld false 1 (.t 46)),
  o2 48 44 true (.bin .eql (.t 47) (.i 0)),
  o1 49 (.pick (.t 44) (.t 48) (.c (.bool false))),
  o1 50 (.mov (.t 49)),
  o2 51 50 true (.mov (.t 4)),
  o2 52 50 true (.len (.t 51)),
  o2 53 50 true (.bin .eql (.t 52) (.i 3)),
  o1 54 (.pick (.t 50) (.t 53) (.c (.bool false))),
  o1 55 (.mov (.t 54)),
  o2 56 55 true (.mov (.t 4)),
  o2 57 55 true (.ixs 1 (.t 56) (.i 0)),
  o2 58 55 true (.ld false 1 (.t 57)),
  o1 59 (.pick (.t 55) (.t 58) (.c (.bool false))),
  o1 60 (.mov (.t 59)),
  o2 61 60 true (.mov (.t 4)),
  o2 62 60 true (.ixs 1 (.t 61) (.i 2)),
  o2 63 60 true (.ld false 1 (.t 62)),
  o1 64 (.pick (.t 60) (.t 63) (.c (.bool false))),
  o1 0 (.mov (.t 64))]
def c36 : MCode := .seq (.reg false r36_1 [])
 (.seq (.reg false r36_2 [1])
 (.seq (.reg true r36_3 [1, 2, 3])
 (.seq (.reg false r36_4 [2, 3, 4])
 (.seq (.reg false r36_5 [0])
 (.ret)))))
def m36 : MFunc := ⟨3, [.tmp 0], c36⟩
def r37_1 : List MOper := [o1 3 (.box (.t 0)),
  o1 6 (.mov (.c (.fz .isnil 1 [])))]
def r37_2 : List MOper := [o1 10 (.ld true 2 (.t 3)),
  o1 11 (.mov (.t 1)),
  o1 12 (.call 39 [(.t 10), (.t 11), (.c (.fz .isnil 1 []))]),
  o1 13 (.isn (.t 12))]
def r37_3 : List MOper := [o1 6 (.mov (.c (.fz .isnil 1 [])))]
def r37_4 : List MOper := [o1 14 (.ld true 2 (.t 3)),
  o1 15 (.call 41 [(.t 14), (.c (.fz .isnil 1 []))]),
  o1 7 (.mov (.t 15))]
def r37_5 : List MOper := [o1 8 (.mov (.c (.clos 95 [] [])))]
def q37_6 : List MOper := [o1 16 (.mov (.t 8)),
  ox (some 17) none .R false (.ld true 2 (.t 3)),
  o1 18 (.mov (.t 1)),
  ox (some 19) none .R false (.ld true 2 (.t 3)),
  o1 20 (.mov (.t 2)),
  ox (some 21) none .R false (.ld true 2 (.t 3)),
  o1 22 (.mov (.t 1)),
  o1 23 (.mov (.t 7)),
  ox (some 24) none .R false (.call 39 [(.t 21), (.t 22), (.t 23)]),
  ox (some 25) none .R false (.call 40 [(.t 19), (.t 20), (.t 24)]),
  ox (some 26) none .R false (.callv (.t 16) [(.t 17), (.t 18), (.t 25)]),
  o1 9 (.mov (.t 26))]
def r37_6 : List MOper := q37_6
def r37_7 : List MOper := [o1 27 (.mov (.t 9)),
  o1 28 (.mov (.t 7)),
  o1 29 (.call 96 [(.t 27), (.t 28)])]
def r37_8 : List MOper := [o1 30 (.mov (.t 7)),
  o1 6 (.mov (.t 30))]
def r37_9 : List MOper := [o1 31 (.mov (.t 9)),
  o1 7 (.mov (.t 31))]
def b37_1 : MCode := .block 1 (.seq (.reg true r37_6 [1, 2, 3, 7, 8, 9])
 (.seq (.seq (.reg false r37_7 [1, 2, 3, 7, 8, 9, 29])
 (.cond 29 (.seq (.reg false r37_8 [6])
 (.ret)) (.skip)))
 (.reg false r37_9 [1, 2, 3, 7, 8])))
def c37 : MCode := .seq (.reg false r37_1 [1, 2, 3])
 (.seq (.seq (.reg false r37_2 [1, 2, 3, 13])
 (.cond 13 (.seq (.reg false r37_3 [6])
 (.ret)) (.skip)))
 (.seq (.reg false r37_4 [1, 2, 3, 7])
 (.seq (.reg false r37_5 [1, 2, 3, 7, 8])
 (.block 0 (.loop [1, 2, 3, 7, 8] b37_1)))))
def m37 : MFunc := ⟨3, [.tmp 6], c37⟩
def r38_1 : List MOper := [o1 3 (.box (.t 0)),
  o1 6 (.mov (.c (.fz .isnil 1 [])))]
def r38_2 : List MOper := [o1 7 (.ld true 2 (.t 3)),
  o1 8 (.mov (.t 1)),
  o1 9 (.call 39 [(.t 7), (.t 8), (.c (.fz .isnil 1 []))]),
  o1 10 (.isn (.t 9))]
def r38_3 : List MOper := [o1 6 (.mov (.c (.fz .isnil 1 [])))]
def q38_4 : List MOper := [ox (some 11) none .R false (.ld true 2 (.t 3)),
  ox (some 12) none .R false (.ld true 2 (.t 3)),
  o1 13 (.mov (.t 1)),
  o1 14 (.bin .sub (.i 1) (.t 13)),
  ox (some 15) none .R false (.ld true 2 (.t 3)),
  o1 16 (.mov (.t 2)),
  ox (some 17) none .R false (.call 41 [(.t 15), (.t 16)]),
  ox (some 18) none .R false (.call 37 [(.t 12), (.t 14), (.t 17)]),
  ox (some 19) none .R false (.call 41 [(.t 11), (.t 18)]),
  o1 6 (.mov (.t 19))]
def r38_4 : List MOper := q38_4
def c38 : MCode := .seq (.reg false r38_1 [1, 2, 3])
 (.seq (.seq (.reg false r38_2 [1, 2, 3, 10])
 (.cond 10 (.seq (.reg false r38_3 [6])
 (.ret)) (.skip)))
 (.seq (.reg true r38_4 [6])
 (.ret)))
def m38 : MFunc := ⟨3, [.tmp 6], c38⟩
def r39_1 : List MOper := [o1 3 (.box (.t 0)),
  o1 4 (.box (.t 1)),
  o1 5 (.box (.t 2)),
  o1 6 (.mov (.c (.fz .isnil 1 [])))]
def r39_2 : List MOper := [o1 7 (.ld true 2 (.t 3)),
  o1 8 (.call 69 [(.t 7)]),
  o1 9 (.bin .neq (.t 8) (.i 0)),
  o1 10 (.mov (.t 9)),
  o2 11 10 false (.ld false 1 (.t 4)),
  o2 12 10 false (.bin .neq (.t 11) (.i 0)),
  o2 13 10 false (.mov (.t 12)),
  o2 14 13 true (.ld false 1 (.t 4)),
  o2 15 13 true (.bin .neq (.t 14) (.i 1)),
  o2 16 10 false (.pick (.t 13) (.t 15) (.c (.bool false))),
  o1 17 (.pick (.t 10) (.c (.bool true)) (.t 16))]
def r39_3 : List MOper := [o1 6 (.mov (.c (.fz .isnil 1 [])))]
def r39_4 : List MOper := [o1 18 (.ld true 2 (.t 3)),
  o1 19 (.mkfn 98 [] [(.t 3), (.t 5), (.t 4)]),
  o1 20 (.call 1097 [(.t 18), (.t 19)]),
  o1 6 (.mov (.t 20))]
def c39 : MCode := .seq (.reg false r39_1 [3, 4, 5])
 (.seq (.seq (.reg false r39_2 [3, 4, 5, 17])
 (.cond 17 (.seq (.reg false r39_3 [6])
 (.ret)) (.skip)))
 (.seq (.reg false r39_4 [6])
 (.ret)))
def m39 : MFunc := ⟨3, [.tmp 6], c39⟩
def r40_1 : List MOper := [o1 3 (.box (.t 0)),
  o1 4 (.box (.t 1)),
  o1 5 (.box (.t 2)),
  o1 6 (.mov (.c (.fz .isnil 1 [])))]
def r40_2 : List MOper := [o1 7 (.ld true 2 (.t 3)),
  o1 8 (.mkfn 100 [] [(.t 4), (.t 5)]),
  o1 9 (.call 1097 [(.t 7), (.t 8)]),
  o1 6 (.mov (.t 9))]
def c40 : MCode := .seq (.reg false r40_1 [3, 4, 5])
 (.seq (.reg false r40_2 [6])
 (.ret))
def m40 : MFunc := ⟨3, [.tmp 6], c40⟩
def r41_1 : List MOper := [o1 2 (.box (.t 0)),
  o1 3 (.box (.t 1)),
  o1 4 (.mov (.c (.fz .isnil 1 [])))]
def r41_2 : List MOper := [o1 5 (.ld true 2 (.t 2)),
  o1 6 (.mkfn 101 [] [(.t 3)]),
  o1 7 (.call 1097 [(.t 5), (.t 6)]),
  o1 4 (.mov (.t 7))]
def c41 : MCode := .seq (.reg false r41_1 [2, 3])
 (.seq (.reg false r41_2 [4])
 (.ret))
def m41 : MFunc := ⟨3, [.tmp 4], c41⟩
def r42_1 : List MOper := [o1 3 (.box (.t 0)),
  o1 6 (.mov (.c (.fz .isnil 1 [])))]
def r42_2 : List MOper := [o1 7 (.ld true 2 (.t 3)),
  o1 8 (.mov (.t 1)),
  o1 9 (.call 39 [(.t 7), (.t 8), (.c (.fz .isnil 1 []))]),
  o1 10 (.isn (.t 9))]
def r42_3 : List MOper := [o1 6 (.mov (.c (.fz .isnil 1 [])))]
def q42_4 : List MOper := [ox (some 11) none .R false (.ld true 2 (.t 3)),
  ox (some 12) none .R false (.ld true 2 (.t 3)),
  o1 13 (.mov (.t 1)),
  o1 14 (.bin .sub (.i 1) (.t 13)),
  ox (some 15) none .R false (.ld true 2 (.t 3)),
  o1 16 (.mov (.t 2)),
  ox (some 17) none .R false (.call 41 [(.t 15), (.t 16)]),
  ox (some 18) none .R false (.call 95 [(.t 12), (.t 14), (.t 17)]),
  ox (some 19) none .R false (.call 41 [(.t 11), (.t 18)]),
  o1 6 (.mov (.t 19))]
def r42_4 : List MOper := q42_4
def c42 : MCode := .seq (.reg false r42_1 [1, 2, 3])
 (.seq (.seq (.reg false r42_2 [1, 2, 3, 10])
 (.cond 10 (.seq (.reg false r42_3 [6])
 (.ret)) (.skip)))
 (.seq (.reg true r42_4 [6])
 (.ret)))
def m42 : MFunc := ⟨3, [.tmp 6], c42⟩
def r43_1 : List MOper := [o1 2 (.box (.t 0)),
  o1 4 (.mov (.c (.bool false)))]
def r43_2 : List MOper := [o1 5 (.ld true 2 (.t 2)),
  o1 6 (.call 92 [(.t 5)]),
  o1 7 (.bin .eql (.t 6) (.i 0)),
  o1 8 (.mov (.t 7)),
  o2 9 8 true (.mov (.t 1)),
  o2 10 8 true (.len (.t 9)),
  o2 11 8 true (.bin .leq (.t 10) (.i 300)),
  o1 12 (.pick (.t 8) (.t 11) (.c (.bool false))),
  o1 4 (.mov (.t 12))]
def c43 : MCode := .seq (.reg false r43_1 [1, 2])
 (.seq (.reg false r43_2 [4])
 (.ret))
def m43 : MFunc := ⟨3, [.tmp 4], c43⟩
def r44_1 : List MOper := [o1 0 (.mov (.c (.bool false)))]
def r44_2 : List MOper := [o1 4 (.bsl false 1 [(.i 0), (.i 1), (.i 1)]),
  o1 5 (.bsl false 1 [(.i 1)]),
  o1 6 (.bsl false 1 [(.i 0), (.i 2)]),
  o1 7 (.bsl false 1 []),
  o1 8 (.bsl false 1 [(.t 5), (.t 6), (.t 7)]),
  o1 9 (.build [.fz .isnil 1 [], .fz .isnil 1 []] [] [(0, 1, (.t 4)), (1, 1, (.t 8))]),
  o1 1 (.alloc [.fz .isnil 1 [], .fz .isnil 1 []] []),
  n1 (.st 2 (.t 1) (.t 9))]
def q44_3 : List MOper := [ox (some 10) none .R false (.ld true 2 (.t 1)),
  o1 11 (.bsl false 1 [(.c (.bool true)), (.c (.bool true)), (.c (.bool true))]),
  ox (some 12) none .R false (.call 42 [(.t 10), (.i 1), (.t 11)]),
  ox (some 13) none .R false (.ld true 2 (.t 1)),
  o1 14 (.bsl false 1 [(.c (.bool true)), (.c (.bool true)), (.c (.bool true))]),
  ox (some 15) none .R false (.call 46 [(.t 13), (.i 1), (.t 14)]),
  o1 2 (.mov (.t 12)),
  o1 3 (.mov (.t 15))]
def r44_3 : List MOper := q44_3
def r44_4 : List MOper := [o1 16 (.mov (.t 2)),
  o1 17 (.len (.t 16)),
  o1 18 (.bin .eql (.t 17) (.i 3)),
  o1 19 (.mov (.t 18)),
  o2 20 19 true (.mov (.t 2)),
  o2 21 19 true (.ixs 1 (.t 20) (.i 0)),
  o2 22 19 true (.ld false 1 (.t 21)),
  o1 23 (.pick (.t 19) (.t 22) (.c (.bool false))),
  o1 24 (.mov (.t 23)),
  o2 25 24 true (.mov (.t 2)),
  o2 26 24 true (.ixs 1 (.t 25) (.i 1)),
  o2 27 24 true (.ld false 1 (.t 26)),
  o1 28 (.pick (.t 24) (.t 27) (.c (.bool false))),
  o1 29 (.mov (.t 28)),
  o2 30 29 true (.mov (.t 2)),
  o2 31 29 true (.ixs 1 (.t 30) (.i 2)),
  o2 32 29 true (.ld false 1 (.t 31)),
  o2 33 29 true (.not (.t 32)),
  o1 34 (.pick (.t 29) (.t 33) (.c (.bool false))),
  o1 35 (.mov (.t 34)),
  o2 36 35 true (.mov (.t 3)),
  o2 37 35 true (.len (.t 36)),
  o2 38 35 true (.bin .eql (.t 37) (.i 3)),
  o1 39 (.pick (.t 35) (.t 38) (.c (.bool false))),
  o1 40 (.mov (.t 39)),
  o2 41 40 true (.mov (.t 3)),
  o2 42 40 true (.ixs 1 (.t 41) (.i 1)),
  o2 43 40 true (.ld false 1 (.t 42)),
  o2 44 40 true (.bin .eql (.t 43) (.i 0)),
  o1 45 (.pick (.t 40) (.t 44) (.c (.bool false))),
  o1 46 (.mov (.t 45)),
  o2 47 46 true (.mov (.t 3)),
  o2 48 46 true (.ixs 1 (.t 47) (.i 0)),
  o2 49 46 true (.ld false 1 (.t 48)),
  o2 50 46 true (.bin .eql (.t 49) (.i (-1))),
  o1 51 (.pick (.t 46) (.t 50) (.c (.bool false))),
  o1 0 (.mov (.t 51))]
def c44 : MCode := .seq (.reg false r44_1 [])
 (.seq (.reg false r44_2 [1])
 (.seq (.reg true r44_3 [2, 3])
 (.seq (.reg false r44_4 [0])
 (.ret))))
def m44 : MFunc := ⟨3, [.tmp 0], c44⟩
def r45_1 : List MOper := [o1 3 (.box (.t 0)),
  o1 4 (.box (.t 1)),
  o1 5 (.box (.t 2)),
  o1 6 (.alloc [.fz .isnil 1 [], .fz .isnil 1 []] [])]
def r45_2 : List MOper := [o1 7 (.ld true 2 (.t 3)),
  o1 8 (.mkfn 103 [] [(.t 3), (.t 4), (.t 5)]),
  o1 9 (.call 102 [(.t 7), (.t 8)]),
  n1 (.st 2 (.t 6) (.t 9))]
def c45 : MCode := .seq (.reg false r45_1 [3, 4, 5, 6])
 (.seq (.reg false r45_2 [6])
 (.ret))
def m45 : MFunc := ⟨3, [.cell 6 true 2], c45⟩
def r46_1 : List MOper := [o1 3 (.box (.t 0)),
  o1 6 (.mov (.c (.fz .isnil 1 [])))]
def r46_2 : List MOper := [o1 13 (.ld true 2 (.t 3)),
  o1 14 (.mov (.t 1)),
  o1 15 (.mov (.t 2)),
  o1 16 (.call 42 [(.t 13), (.t 14), (.t 15)]),
  o1 7 (.mov (.t 16))]
def r46_3 : List MOper := [o1 17 (.mov (.t 7)),
  o1 18 (.isn (.t 17))]
def r46_4 : List MOper := [o1 6 (.mov (.c (.fz .isnil 1 [])))]
def r46_5 : List MOper := [o1 19 (.mov (.t 7)),
  o1 20 (.len (.t 19)),
  o1 21 (.mksl 1 (.int .i64 0) (.t 20)),
  o1 8 (.mov (.t 21))]
def r46_6 : List MOper := [o1 22 (.mov (.t 7)),
  o1 23 (.len (.t 22)),
  o1 24 (.mov (.i 0))]
def r46_7 : List MOper := [o1 25 (.bin .lss (.t 24) (.t 23))]
def r46_8 : List MOper := [o1 26 (.mov (.t 24)),
  o1 27 (.ixs 1 (.t 22) (.t 24)),
  o1 28 (.ld false 1 (.t 27)),
  o1 9 (.mov (.t 26)),
  o1 10 (.mov (.t 28))]
def r46_9 : List MOper := [o1 29 (.mov (.t 8)),
  o1 30 (.mov (.t 9)),
  o1 31 (.ixs 1 (.t 29) (.t 30)),
  n1 (.st 1 (.t 31) (.i (-1)))]
def r46_10 : List MOper := [o1 32 (.mov (.t 10)),
  o1 33 (.not (.t 32)),
  o1 34 (.mov (.t 33)),
  o2 35 34 false (.fld 0 (.t 3)),
  o2 36 34 false (.ld false 1 (.t 35)),
  o2 37 34 false (.mov (.t 9)),
  o2 38 34 false (.ixs 1 (.t 36) (.t 37)),
  o2 39 34 false (.ld false 1 (.t 38)),
  o2 40 34 false (.mov (.t 1)),
  o2 41 34 false (.bin .neq (.t 39) (.t 40)),
  o1 42 (.pick (.t 34) (.c (.bool true)) (.t 41))]
def r46_11 : List MOper := [o1 43 (.fld 1 (.t 3)),
  o1 44 (.ld false 1 (.t 43)),
  o1 45 (.mov (.t 9)),
  o1 46 (.ixs 1 (.t 44) (.t 45)),
  o1 47 (.ld false 1 (.t 46)),
  o1 48 (.len (.t 47)),
  o1 49 (.mov (.i 0))]
def r46_12 : List MOper := [o1 50 (.bin .lss (.t 49) (.t 48))]
def r46_13 : List MOper := [o1 51 (.ixs 1 (.t 47) (.t 49)),
  o1 52 (.ld false 1 (.t 51)),
  o1 12 (.mov (.t 52))]
def r46_14 : List MOper := [o1 53 (.mov (.t 7)),
  o1 54 (.mov (.t 12)),
  o1 55 (.ixs 1 (.t 53) (.t 54)),
  o1 56 (.ld false 1 (.t 55))]
def r46_15 : List MOper := [o1 57 (.mov (.t 8)),
  o1 58 (.mov (.t 9)),
  o1 59 (.mov (.t 12)),
  o1 60 (.ixs 1 (.t 57) (.t 58)),
  n1 (.st 1 (.t 60) (.t 59))]
def r46_16 : List MOper := [o1 61 (.bin .add (.t 49) (.i 1)),
  o1 49 (.mov (.t 61))]
def b46_2 : MCode := .seq (.reg false r46_12 [1, 3, 7, 8, 9, 22, 23, 24, 47, 48, 49, 50])
 (.seq (.cond 50 (.skip) (.exit 2))
 (.seq (.block 3 (.seq (.reg false r46_13 [1, 3, 7, 8, 9, 12, 22, 23, 24, 47, 48, 49])
 (.seq (.reg false r46_14 [1, 3, 7, 8, 9, 12, 22, 23, 24, 47, 48, 49, 56])
 (.cond 56 (.seq (.reg false r46_15 [1, 3, 7, 8, 22, 23, 24])
 (.exit 2)) (.skip)))))
 (.reg false r46_16 [1, 3, 7, 8, 9, 22, 23, 24, 47, 48, 49])))
def r46_17 : List MOper := [o1 62 (.bin .add (.t 24) (.i 1)),
  o1 24 (.mov (.t 62))]
def b46_1 : MCode := .seq (.reg false r46_7 [1, 3, 7, 8, 22, 23, 24, 25])
 (.seq (.cond 25 (.skip) (.exit 0))
 (.seq (.block 1 (.seq (.reg false r46_8 [1, 3, 7, 8, 9, 10, 22, 23, 24])
 (.seq (.reg false r46_9 [1, 3, 7, 8, 9, 10, 22, 23, 24])
 (.seq (.seq (.reg false r46_10 [1, 3, 7, 8, 9, 22, 23, 24, 42])
 (.cond 42 (.exit 1) (.skip)))
 (.seq (.reg false r46_11 [1, 3, 7, 8, 9, 22, 23, 24, 47, 48, 49])
 (.block 2 (.loop [1, 3, 7, 8, 9, 22, 23, 24, 47, 48, 49] b46_2)))))))
 (.reg false r46_17 [1, 3, 7, 8, 22, 23, 24])))
def r46_18 : List MOper := [o1 63 (.mov (.t 8)),
  o1 6 (.mov (.t 63))]
def c46 : MCode := .seq (.reg false r46_1 [1, 2, 3])
 (.seq (.reg false r46_2 [1, 3, 7])
 (.seq (.seq (.reg false r46_3 [1, 3, 7, 18])
 (.cond 18 (.seq (.reg false r46_4 [6])
 (.ret)) (.skip)))
 (.seq (.reg false r46_5 [1, 3, 7, 8])
 (.seq (.seq (.reg false r46_6 [1, 3, 7, 8, 22, 23, 24])
 (.block 0 (.loop [1, 3, 7, 8, 22, 23, 24] b46_1)))
 (.seq (.reg false r46_18 [6])
 (.ret))))))
def m46 : MFunc := ⟨3, [.tmp 6], c46⟩
def r47_1 : List MOper := [o1 2 (.box (.t 0)),
  o1 4 (.mov (.c (.fz .isnil 1 [])))]
def r47_2 : List MOper := [o1 12 (.ld true 2 (.t 2)),
  o1 13 (.call 69 [(.t 12)]),
  o1 14 (.bin .neq (.t 13) (.i 0))]
def r47_3 : List MOper := [o1 4 (.mov (.c (.fz .isnil 1 [])))]
def r47_4 : List MOper := [o1 15 (.fld 0 (.t 2)),
  o1 16 (.ld false 1 (.t 15)),
  o1 17 (.len (.t 16)),
  o1 18 (.mksl 1 (.bool false) (.t 17)),
  o1 5 (.alloc [.fz .isnil 1 []] []),
  n1 (.st 1 (.t 5) (.t 18))]
def r47_5 : List MOper := [o1 6 (.alloc [.fz .isnil 1 []] [])]
def r47_6 : List MOper := [o1 19 (.mkfn 104 [] [(.t 5), (.t 6)]),
  o1 7 (.mov (.t 19))]
def r47_7 : List MOper := [o1 20 (.ld false 1 (.t 5)),
  o1 21 (.len (.t 20)),
  o1 22 (.mov (.i 0))]
def r47_8 : List MOper := [o1 23 (.bin .lss (.t 22) (.t 21))]
def r47_9 : List MOper := [o1 24 (.mov (.t 22)),
  o1 8 (.mov (.t 24))]
def r47_10 : List MOper := [o1 25 (.mov (.t 8)),
  o1 26 (.mov (.t 1)),
  o1 27 (.len (.t 26)),
  o1 28 (.bin .lss (.t 25) (.t 27)),
  o1 29 (.mov (.t 28)),
  o2 30 29 true (.mov (.t 1)),
  o2 31 29 true (.mov (.t 8)),
  o2 32 29 true (.ixs 1 (.t 30) (.t 31)),
  o2 33 29 true (.ld false 1 (.t 32)),
  o1 34 (.pick (.t 29) (.t 33) (.c (.bool false)))]
def r47_11 : List MOper := [o1 35 (.mov (.t 7)),
  o1 36 (.mov (.t 8)),
  o1 37 (.callv (.t 35) [(.t 36)])]
def r47_12 : List MOper := [o1 38 (.bin .add (.t 22) (.i 1)),
  o1 22 (.mov (.t 38))]
def b47_1 : MCode := .seq (.reg false r47_8 [1, 2, 5, 6, 7, 21, 22, 23])
 (.seq (.cond 23 (.skip) (.exit 0))
 (.seq (.block 1 (.seq (.reg false r47_9 [1, 2, 5, 6, 7, 8, 21, 22])
 (.seq (.reg false r47_10 [1, 2, 5, 6, 7, 8, 21, 22, 34])
 (.cond 34 (.reg false r47_11 [1, 2, 5, 6, 7, 21, 22]) (.skip)))))
 (.reg false r47_12 [1, 2, 5, 6, 7, 21, 22])))
def r47_13 : List MOper := [o1 39 (.ld false 1 (.t 6)),
  o1 40 (.len (.t 39)),
  o1 41 (.bin .gtr (.t 40) (.i 0))]
def r47_14 : List MOper := [o1 42 (.ld false 1 (.t 6)),
  o1 43 (.ld false 1 (.t 6)),
  o1 44 (.len (.t 43)),
  o1 45 (.bin .sub (.t 44) (.i 1)),
  o1 46 (.ixs 1 (.t 42) (.t 45)),
  o1 47 (.ld false 1 (.t 46)),
  o1 9 (.mov (.t 47))]
def r47_15 : List MOper := [o1 48 (.ld false 1 (.t 6)),
  o1 49 (.ld false 1 (.t 6)),
  o1 50 (.len (.t 49)),
  o1 51 (.bin .sub (.t 50) (.i 1)),
  o1 52 (.slc 1 (.t 48) none (some (.t 51))),
  n1 (.st 1 (.t 6) (.t 52))]
def r47_16 : List MOper := [o1 53 (.fld 1 (.t 2)),
  o1 54 (.ld false 1 (.t 53)),
  o1 55 (.mov (.t 9)),
  o1 56 (.ixs 1 (.t 54) (.t 55)),
  o1 57 (.ld false 1 (.t 56)),
  o1 58 (.len (.t 57)),
  o1 59 (.mov (.i 0))]
def r47_17 : List MOper := [o1 60 (.bin .lss (.t 59) (.t 58))]
def r47_18 : List MOper := [o1 61 (.ixs 1 (.t 57) (.t 59)),
  o1 62 (.ld false 1 (.t 61)),
  o1 11 (.mov (.t 62))]
def r47_19 : List MOper := [o1 63 (.mov (.t 7)),
  o1 64 (.mov (.t 11)),
  o1 65 (.callv (.t 63) [(.t 64)])]
def r47_20 : List MOper := [o1 66 (.bin .add (.t 59) (.i 1)),
  o1 59 (.mov (.t 66))]
def b47_3 : MCode := .seq (.reg false r47_17 [2, 5, 6, 7, 57, 58, 59, 60])
 (.seq (.cond 60 (.skip) (.exit 4))
 (.seq (.block 5 (.seq (.reg false r47_18 [2, 5, 6, 7, 11, 57, 58, 59])
 (.reg false r47_19 [2, 5, 6, 7, 57, 58, 59])))
 (.reg false r47_20 [2, 5, 6, 7, 57, 58, 59])))
def b47_2 : MCode := .seq (.seq (.reg false r47_13 [2, 5, 6, 7, 41])
 (.cond 41 (.skip) (.exit 2)))
 (.block 3 (.seq (.reg false r47_14 [2, 5, 6, 7, 9])
 (.seq (.reg false r47_15 [2, 5, 6, 7, 9])
 (.seq (.reg false r47_16 [2, 5, 6, 7, 57, 58, 59])
 (.block 4 (.loop [2, 5, 6, 7, 57, 58, 59] b47_3))))))
def r47_21 : List MOper := [o1 67 (.ld false 1 (.t 5)),
  o1 4 (.mov (.t 67))]
def c47 : MCode := .seq (.reg false r47_1 [1, 2])
 (.seq (.seq (.reg false r47_2 [1, 2, 14])
 (.cond 14 (.seq (.reg false r47_3 [4])
 (.ret)) (.skip)))
 (.seq (.reg false r47_4 [1, 2, 5])
 (.seq (.reg false r47_5 [1, 2, 5, 6])
 (.seq (.reg false r47_6 [1, 2, 5, 6, 7])
 (.seq (.seq (.reg false r47_7 [1, 2, 5, 6, 7, 21, 22])
 (.block 0 (.loop [1, 2, 5, 6, 7, 21, 22] b47_1)))
 (.seq (.block 2 (.loop [2, 5, 6, 7] b47_2))
 (.seq (.reg false r47_21 [4])
 (.ret))))))))
def m47 : MFunc := ⟨3, [.tmp 4], c47⟩
def r48_1 : List MOper := [o1 4 (.mov (.c (.bool false)))]
def r48_2 : List MOper := [o1 5 (.mov (.t 1)),
  o1 6 (.bin .geq (.t 5) (.i 0)),
  o1 7 (.mov (.t 6)),
  o2 8 7 true (.mov (.t 1)),
  o2 9 7 true (.mov (.t 0)),
  o2 10 7 true (.len (.t 9)),
  o2 11 7 true (.bin .lss (.t 8) (.t 10)),
  o1 12 (.pick (.t 7) (.t 11) (.c (.bool false))),
  o1 13 (.mov (.t 12)),
  o2 14 13 true (.mov (.t 0)),
  o2 15 13 true (.mov (.t 1)),
  o2 16 13 true (.ixs 1 (.t 14) (.t 15)),
  o2 17 13 true (.ld false 1 (.t 16)),
  o1 18 (.pick (.t 13) (.t 17) (.c (.bool false))),
  o1 4 (.mov (.t 18))]
def c48 : MCode := .seq (.reg false r48_1 [0, 1])
 (.seq (.reg false r48_2 [4])
 (.ret))
def m48 : MFunc := ⟨3, [.tmp 4], c48⟩
def r49_1 : List MOper := [o1 3 (.box (.t 0)),
  o1 6 (.mov (.i 0))]
def r49_2 : List MOper := [o1 12 (.ld true 2 (.t 3)),
  o1 13 (.call 92 [(.t 12)]),
  o1 7 (.mov (.t 13))]
def r49_3 : List MOper := [o1 14 (.mov (.t 7)),
  o1 15 (.bin .gtr (.t 14) (.i 0))]
def r49_4 : List MOper := [o1 16 (.mov (.t 7)),
  o1 6 (.mov (.t 16))]
def r49_5 : List MOper := [o1 17 (.fld 0 (.t 3)),
  o1 18 (.ld false 1 (.t 17)),
  o1 19 (.len (.t 18)),
  o1 20 (.bin .gtr (.t 19) (.i 40)),
  o1 21 (.mov (.t 20)),
  o2 22 21 false (.mov (.t 1)),
  o2 23 21 false (.len (.t 22)),
  o2 24 21 false (.bin .gtr (.t 23) (.i 6)),
  o1 25 (.pick (.t 21) (.c (.bool true)) (.t 24)),
  o1 26 (.mov (.t 25)),
  o2 27 26 false (.mov (.t 2)),
  o2 28 26 false (.len (.t 27)),
  o2 29 26 false (.bin .gtr (.t 28) (.i 6)),
  o1 30 (.pick (.t 26) (.c (.bool true)) (.t 29))]
def r49_6 : List MOper := [o1 6 (.mov (.i 1))]
def r49_7 : List MOper := [o1 31 (.mov (.t 1)),
  o1 32 (.mov (.t 2)),
  o1 33 (.build [.fz .isnil 1 [], .fz .isnil 1 []] [] [(0, 1, (.t 31)), (1, 1, (.t 32))]),
  o1 34 (.mov (.i 0))]
def r49_8 : List MOper := [o1 35 (.bin .lss (.t 34) (.i 2))]
def r49_9 : List MOper := [o1 36 (.ixv 2 1 (.t 33) (.t 34)),
  o1 9 (.mov (.t 36))]
def r49_10 : List MOper := [o1 37 (.mov (.t 9)),
  o1 38 (.len (.t 37)),
  o1 39 (.mov (.i 0))]
def r49_11 : List MOper := [o1 40 (.bin .lss (.t 39) (.t 38))]
def r49_12 : List MOper := [o1 41 (.ixs 1 (.t 37) (.t 39)),
  o1 42 (.ld false 1 (.t 41)),
  o1 11 (.mov (.t 42))]
def r49_13 : List MOper := [o1 43 (.mov (.t 11)),
  o1 44 (.len (.t 43)),
  o1 45 (.bin .gtr (.t 44) (.i 300))]
def r49_14 : List MOper := [o1 6 (.mov (.i 1))]
def r49_15 : List MOper := [o1 46 (.bin .add (.t 39) (.i 1)),
  o1 39 (.mov (.t 46))]
def b49_2 : MCode := .seq (.reg false r49_11 [33, 34, 37, 38, 39, 40])
 (.seq (.cond 40 (.skip) (.exit 2))
 (.seq (.block 3 (.seq (.reg false r49_12 [11, 33, 34, 37, 38, 39])
 (.seq (.reg false r49_13 [33, 34, 37, 38, 39, 45])
 (.cond 45 (.seq (.reg false r49_14 [6])
 (.ret)) (.skip)))))
 (.reg false r49_15 [33, 34, 37, 38, 39])))
def r49_16 : List MOper := [o1 47 (.bin .add (.t 34) (.i 1)),
  o1 34 (.mov (.t 47))]
def b49_1 : MCode := .seq (.reg false r49_8 [33, 34, 35])
 (.seq (.cond 35 (.skip) (.exit 0))
 (.seq (.block 1 (.seq (.reg false r49_9 [9, 33, 34])
 (.seq (.reg false r49_10 [33, 34, 37, 38, 39])
 (.block 2 (.loop [33, 34, 37, 38, 39] b49_2)))))
 (.reg false r49_16 [33, 34])))
def r49_17 : List MOper := [o1 6 (.mov (.i 0))]
def c49 : MCode := .seq (.reg false r49_1 [1, 2, 3])
 (.seq (.seq (.reg false r49_2 [1, 2, 3, 7])
 (.seq (.reg false r49_3 [1, 2, 3, 7, 15])
 (.cond 15 (.seq (.reg false r49_4 [6])
 (.ret)) (.skip))))
 (.seq (.seq (.reg false r49_5 [1, 2, 30])
 (.cond 30 (.seq (.reg false r49_6 [6])
 (.ret)) (.skip)))
 (.seq (.seq (.reg false r49_7 [33, 34])
 (.block 0 (.loop [33, 34] b49_1)))
 (.seq (.reg false r49_17 [6])
 (.ret)))))
def m49 : MFunc := ⟨3, [.tmp 6], c49⟩
def r50_1 : List MOper := [o1 0 (.mov (.c (.bool false)))]
def r50_2 : List MOper := [o1 3 (.bsl false 1 [(.i 0), (.i 1), (.i 1)]),
  o1 4 (.bsl false 1 [(.i 1)]),
  o1 5 (.bsl false 1 [(.i 0), (.i 2)]),
  o1 6 (.bsl false 1 [(.i 2)]),
  o1 7 (.bsl false 1 [(.t 4), (.t 5), (.t 6)]),
  o1 8 (.build [.fz .isnil 1 [], .fz .isnil 1 []] [] [(0, 1, (.t 3)), (1, 1, (.t 7))]),
  o1 1 (.alloc [.fz .isnil 1 [], .fz .isnil 1 []] []),
  n1 (.st 2 (.t 1) (.t 8))]
def r50_3 : List MOper := [o1 9 (.ld true 2 (.t 1)),
  o1 10 (.bsl false 1 [(.c (.bool true))]),
  o1 11 (.bsl false 1 [(.t 10)]),
  o1 12 (.call 51 [(.t 9), (.c (.fz .isnil 1 [])), (.t 11)]),
  o1 2 (.mov (.t 12))]
def r50_4 : List MOper := [o1 13 (.mov (.t 2)),
  o1 14 (.len (.t 13)),
  o1 15 (.bin .eql (.t 14) (.i 1)),
  o1 16 (.mov (.t 15)),
  o2 17 16 true (.mov (.t 2)),
  o2 18 16 true (.ixs 4 (.t 17) (.i 0)),
  o2 19 16 true (.ld true 4 (.t 18)),
  o2 20 16 true (.build [.int .i64 0, .int .i64 0, .int .i64 0, .int .i64 0] [] [(0, 1, (.i 1)), (1, 1, (.i 0)), (2, 1, (.i 0)), (3, 1, (.i 0))]),
  o2 21 16 true (.aeq false 4 (.t 19) (.t 20)),
  o1 22 (.pick (.t 16) (.t 21) (.c (.bool false))),
  o1 23 (.mov (.t 22)),
  o2 24 23 true (.ld true 2 (.t 1)),
  o2 25 23 true (.bsl false 1 [(.c (.bool true))]),
  o2 26 23 true (.bsl false 1 [(.t 25), (.c (.fz .isnil 1 []))]),
  o2 27 23 true (.call 55 [(.t 24), (.t 26), (.i 0), (.i 0)]),
  o2 28 23 true (.bin .eql (.t 27) (.i 1)),
  o1 29 (.pick (.t 23) (.t 28) (.c (.bool false))),
  o1 30 (.mov (.t 29)),
  o2 31 30 true (.ld true 2 (.t 1)),
  o2 32 30 true (.bsl false 1 [(.c (.bool true))]),
  o2 33 30 true (.bsl false 1 [(.t 32), (.c (.fz .isnil 1 []))]),
  o2 34 30 true (.call 55 [(.t 31), (.t 33), (.i 0), (.i 1)]),
  o2 35 30 true (.bin .eql (.t 34) (.i 1)),
  o1 36 (.pick (.t 30) (.t 35) (.c (.bool false))),
  o1 0 (.mov (.t 36))]
def c50 : MCode := .seq (.reg false r50_1 [])
 (.seq (.reg false r50_2 [1])
 (.seq (.reg false r50_3 [1, 2])
 (.seq (.reg false r50_4 [0])
 (.ret))))
def m50 : MFunc := ⟨3, [.tmp 0], c50⟩
def r51_1 : List MOper := [o1 3 (.box (.t 0)),
  o1 6 (.mov (.c (.fz .isnil 4 [])))]
def r51_2 : List MOper := [o1 17 (.ld true 2 (.t 3)),
  o1 18 (.mov (.t 1)),
  o1 19 (.mov (.t 2)),
  o1 20 (.call 58 [(.t 17), (.t 18), (.t 19)]),
  o1 7 (.mov (.t 20))]
def r51_3 : List MOper := [o1 21 (.mov (.t 7)),
  o1 22 (.isn (.t 21))]
def r51_4 : List MOper := [o1 6 (.mov (.c (.fz .isnil 4 [])))]
def r51_5 : List MOper := [o1 23 (.ld true 2 (.t 3)),
  o1 24 (.mov (.t 2)),
  o1 25 (.call 105 [(.t 23), (.t 24)]),
  o1 8 (.mov (.t 25))]
def r51_6 : List MOper := [o1 9 (.tnil 1)]
def r51_7 : List MOper := [o1 26 (.mov (.t 8)),
  o1 27 (.len (.t 26)),
  o1 28 (.mov (.i 0))]
def r51_8 : List MOper := [o1 29 (.bin .lss (.t 28) (.t 27))]
def r51_9 : List MOper := [o1 30 (.ixs 1 (.t 26) (.t 28)),
  o1 31 (.ld false 1 (.t 30)),
  o1 11 (.mov (.t 31))]
def q51_10 : List MOper := [ox (some 32) none .R false (.ld true 2 (.t 3)),
  ox (some 33) none .R false (.ld true 2 (.t 3)),
  o1 34 (.mov (.t 1)),
  ox (some 35) none .R false (.call 105 [(.t 33), (.t 34)]),
  o1 36 (.mov (.t 7)),
  o1 37 (.build [.fz .isnil 1 [], .fz .isnil 1 [], .fz .isnil 1 [], .fz .isnil 1 [], .fz .isnil 1 []] [] [(0, 2, (.t 32)), (2, 1, (.t 35)), (3, 1, (.t 36))]),
  ox (some 38) none .L false (.box (.t 37)),
  o1 12 (.mov (.t 38))]
def r51_10 : List MOper := q51_10
def r51_11 : List MOper := [o1 39 (.mov (.t 12)),
  o1 40 (.mov (.t 11)),
  o1 41 (.call 106 [(.t 39), (.t 40)])]
def r51_12 : List MOper := [o1 42 (.mov (.t 9)),
  o1 43 (.mov (.t 12)),
  o1 44 (.nilck (.t 43)),
  o1 45 (.fld 4 (.t 44)),
  o1 46 (.ld false 1 (.t 45)),
  o1 47 (.bsl false 1 [(.t 46)]),
  o1 48 (.app 1 (.t 42) (.t 47)),
  o1 9 (.mov (.t 48))]
def r51_13 : List MOper := [o1 49 (.bin .add (.t 28) (.i 1)),
  o1 28 (.mov (.t 49))]
def b51_1 : MCode := .seq (.reg false r51_8 [1, 3, 7, 8, 9, 26, 27, 28, 29])
 (.seq (.cond 29 (.skip) (.exit 0))
 (.seq (.block 1 (.seq (.reg false r51_9 [1, 3, 7, 8, 9, 11, 26, 27, 28])
 (.seq (.reg true r51_10 [1, 3, 7, 8, 9, 11, 12, 26, 27, 28])
 (.seq (.reg false r51_11 [1, 3, 7, 8, 9, 12, 26, 27, 28])
 (.reg false r51_12 [1, 3, 7, 8, 9, 26, 27, 28])))))
 (.reg false r51_13 [1, 3, 7, 8, 9, 26, 27, 28])))
def r51_14 : List MOper := [o1 13 (.tnil 4)]
def r51_15 : List MOper := [o1 50 (.mov (.t 7)),
  o1 51 (.len (.t 50)),
  o1 52 (.mov (.i 0))]
def r51_16 : List MOper := [o1 53 (.bin .lss (.t 52) (.t 51))]
def r51_17 : List MOper := [o1 54 (.mov (.t 52)),
  o1 55 (.ixs 1 (.t 50) (.t 52)),
  o1 56 (.ld false 1 (.t 55)),
  o1 14 (.mov (.t 54)),
  o1 15 (.mov (.t 56))]
def r51_18 : List MOper := [o1 57 (.mov (.t 15)),
  o1 58 (.not (.t 57)),
  o1 59 (.mov (.t 58)),
  o2 60 59 false (.fld 0 (.t 3)),
  o2 61 59 false (.ld false 1 (.t 60)),
  o2 62 59 false (.mov (.t 14)),
  o2 63 59 false (.ixs 1 (.t 61) (.t 62)),
  o2 64 59 false (.ld false 1 (.t 63)),
  o2 65 59 false (.bin .neq (.t 64) (.i 1)),
  o1 66 (.pick (.t 59) (.c (.bool true)) (.t 65))]
def r51_19 : List MOper := [o1 67 (.mov (.t 8)),
  o1 68 (.len (.t 67)),
  o1 69 (.mov (.i 0))]
def r51_20 : List MOper := [o1 70 (.bin .lss (.t 69) (.t 68))]
def r51_21 : List MOper := [o1 71 (.mov (.t 69)),
  o1 16 (.mov (.t 71))]
def q51_22 : List MOper := [o1 72 (.mov (.t 13)),
  o1 73 (.mov (.t 14)),
  o1 74 (.mov (.t 16)),
  o1 75 (.mov (.t 9)),
  o1 76 (.mov (.t 16)),
  o1 77 (.ixs 1 (.t 75) (.t 76)),
  ox (some 78) none .R false (.ld false 1 (.t 77)),
  o1 79 (.mov (.t 14)),
  o1 80 (.ixs 1 (.t 78) (.t 79)),
  ox (some 81) none .R false (.ld false 1 (.t 80)),
  o1 82 (.mov (.t 8)),
  o1 83 (.mov (.t 14)),
  o1 84 (.mov (.t 16)),
  ox (some 85) none .R false (.call 107 [(.t 82), (.t 83), (.t 84)]),
  o1 86 (.build [.int .i64 0, .int .i64 0, .int .i64 0, .int .i64 0] [] [(0, 1, (.t 73)), (1, 1, (.t 74)), (2, 1, (.t 81)), (3, 1, (.t 85))]),
  o1 87 (.bsl false 4 [(.t 86)]),
  ox (some 88) none .L false (.app 4 (.t 72) (.t 87)),
  o1 13 (.mov (.t 88))]
def r51_22 : List MOper := q51_22
def r51_23 : List MOper := [o1 89 (.bin .add (.t 69) (.i 1)),
  o1 69 (.mov (.t 89))]
def b51_3 : MCode := .seq (.reg false r51_20 [3, 8, 9, 13, 14, 50, 51, 52, 68, 69, 70])
 (.seq (.cond 70 (.skip) (.exit 4))
 (.seq (.block 5 (.seq (.reg false r51_21 [3, 8, 9, 13, 14, 16, 50, 51, 52, 68, 69])
 (.reg true r51_22 [3, 8, 9, 13, 14, 50, 51, 52, 68, 69])))
 (.reg false r51_23 [3, 8, 9, 13, 14, 50, 51, 52, 68, 69])))
def r51_24 : List MOper := [o1 90 (.bin .add (.t 52) (.i 1)),
  o1 52 (.mov (.t 90))]
def b51_2 : MCode := .seq (.reg false r51_16 [3, 8, 9, 13, 50, 51, 52, 53])
 (.seq (.cond 53 (.skip) (.exit 2))
 (.seq (.block 3 (.seq (.reg false r51_17 [3, 8, 9, 13, 14, 15, 50, 51, 52])
 (.seq (.seq (.reg false r51_18 [3, 8, 9, 13, 14, 50, 51, 52, 66])
 (.cond 66 (.exit 3) (.skip)))
 (.seq (.reg false r51_19 [3, 8, 9, 13, 14, 50, 51, 52, 68, 69])
 (.block 4 (.loop [3, 8, 9, 13, 14, 50, 51, 52, 68, 69] b51_3))))))
 (.reg false r51_24 [3, 8, 9, 13, 50, 51, 52])))
def r51_25 : List MOper := [o1 91 (.mov (.t 13)),
  o1 6 (.mov (.t 91))]
def c51 : MCode := .seq (.reg false r51_1 [1, 2, 3])
 (.seq (.reg false r51_2 [1, 2, 3, 7])
 (.seq (.seq (.reg false r51_3 [1, 2, 3, 7, 22])
 (.cond 22 (.seq (.reg false r51_4 [6])
 (.ret)) (.skip)))
 (.seq (.reg false r51_5 [1, 3, 7, 8])
 (.seq (.reg false r51_6 [1, 3, 7, 8, 9])
 (.seq (.seq (.reg false r51_7 [1, 3, 7, 8, 9, 26, 27, 28])
 (.block 0 (.loop [1, 3, 7, 8, 9, 26, 27, 28] b51_1)))
 (.seq (.reg false r51_14 [3, 7, 8, 9, 13])
 (.seq (.seq (.reg false r51_15 [3, 8, 9, 13, 50, 51, 52])
 (.block 2 (.loop [3, 8, 9, 13, 50, 51, 52] b51_2)))
 (.seq (.reg false r51_25 [6])
 (.ret)))))))))
def m51 : MFunc := ⟨3, [.tmp 6], c51⟩
def r52_1 : List MOper := [o1 3 (.box (.t 0)),
  o1 6 (.mov (.c (.fz .isnil 1 []))),
  o1 7 (.mov (.i 0))]
def r52_2 : List MOper := [o1 20 (.ld true 2 (.t 3)),
  o1 21 (.call 35 [(.t 20)]),
  o1 22 (.bin .neq (.t 21) (.i 0)),
  o1 23 (.mov (.t 22)),
  o2 24 23 false (.mov (.t 1)),
  o2 25 23 false (.len (.t 24)),
  o2 26 23 false (.bin .gtr (.t 25) (.i 4)),
  o1 27 (.pick (.t 23) (.c (.bool true)) (.t 26)),
  o1 28 (.mov (.t 27)),
  o2 29 28 false (.mov (.t 2)),
  o2 30 28 false (.len (.t 29)),
  o2 31 28 false (.bin .gtr (.t 30) (.i 4)),
  o1 32 (.pick (.t 28) (.c (.bool true)) (.t 31))]
def r52_3 : List MOper := [o1 6 (.mov (.c (.fz .isnil 1 []))),
  o1 7 (.mov (.i 0))]
def r52_4 : List MOper := [o1 33 (.ld true 2 (.t 3)),
  o1 34 (.call 108 [(.t 33), (.c (.fz .isnil 1 []))]),
  o1 8 (.mov (.t 34)),
  o1 9 (.mov (.i 0))]
def r52_5 : List MOper := [o1 35 (.mov (.t 8)),
  o1 10 (.mov (.t 35))]
def r52_6 : List MOper := [o1 36 (.ld true 2 (.t 3)),
  o1 37 (.mov (.t 2)),
  o1 38 (.call 109 [(.t 36), (.t 37)]),
  o1 39 (.len (.t 38)),
  o1 40 (.mov (.i 0))]
def r52_7 : List MOper := [o1 41 (.bin .lss (.t 40) (.t 39))]
def r52_8 : List MOper := [o1 42 (.ixs 1 (.t 38) (.t 40)),
  o1 43 (.ld false 1 (.t 42)),
  o1 12 (.mov (.t 43))]
def r52_9 : List MOper := [o1 44 (.mov (.t 8)),
  o1 45 (.len (.t 44)),
  o1 46 (.mksl 1 (.bool false) (.t 45)),
  o1 13 (.mov (.t 46))]
def q52_10 : List MOper := [ox (some 47) none .R false (.ld true 2 (.t 3)),
  o1 48 (.mov (.t 12)),
  ox (some 49) none .R false (.call 112 [(.t 47), (.t 48)]),
  ox (some 50) none .R false (.ld true 2 (.t 3)),
  o1 51 (.mov (.t 8)),
  ox (some 52) none .R false (.call 113 [(.t 50), (.i 1), (.t 51)]),
  ox (some 53) none .R false (.call 111 [(.t 49), (.t 52)]),
  ox (some 54) none .R false (.ld true 2 (.t 3)),
  o1 55 (.mov (.t 13)),
  ox (some 56) none .R false (.call 113 [(.t 54), (.i 1), (.t 55)]),
  ox (some 57) none .R false (.call 110 [(.t 53), (.t 56)]),
  o1 14 (.mov (.t 57))]
def r52_10 : List MOper := q52_10
def r52_11 : List MOper := [o1 58 (.mov (.t 8)),
  o1 59 (.len (.t 58)),
  o1 60 (.mksl 1 (.bool false) (.t 59)),
  o1 15 (.mov (.t 60))]
def r52_12 : List MOper := [o1 61 (.ld true 2 (.t 3)),
  o1 62 (.mov (.t 1)),
  o1 63 (.call 109 [(.t 61), (.t 62)]),
  o1 64 (.len (.t 63)),
  o1 65 (.mov (.i 0))]
def r52_13 : List MOper := [o1 66 (.bin .lss (.t 65) (.t 64))]
def r52_14 : List MOper := [o1 67 (.ixs 1 (.t 63) (.t 65)),
  o1 68 (.ld false 1 (.t 67)),
  o1 17 (.mov (.t 68))]
def r52_15 : List MOper := [o1 69 (.ld true 2 (.t 3)),
  o1 70 (.call 108 [(.t 69), (.c (.fz .isnil 1 []))]),
  o1 18 (.mov (.t 70))]
def q52_16 : List MOper := [o1 71 (.mov (.t 14)),
  ox (some 72) none .R false (.ld true 2 (.t 3)),
  o1 73 (.mov (.t 17)),
  ox (some 74) none .R false (.call 108 [(.t 72), (.t 73)]),
  ox (some 75) none .R false (.ld true 2 (.t 3)),
  o1 76 (.mov (.t 18)),
  ox (some 77) none .R false (.call 113 [(.t 75), (.i 1), (.t 76)]),
  ox (some 78) none .R false (.call 111 [(.t 74), (.t 77)]),
  ox (some 79) none .R false (.call 110 [(.t 71), (.t 78)]),
  o1 19 (.mov (.t 79))]
def r52_16 : List MOper := q52_16
def r52_17 : List MOper := [o1 80 (.mov (.t 19)),
  o1 81 (.mov (.t 18)),
  o1 82 (.call 32 [(.t 80), (.t 81)])]
def r52_18 : List MOper := [o1 83 (.mov (.t 19)),
  o1 18 (.mov (.t 83))]
def b52_5 : MCode := .block 9 (.seq (.reg true r52_16 [1, 2, 3, 8, 9, 10, 12, 13, 14, 15, 17, 18, 19, 38, 39, 40, 63, 64, 65])
 (.seq (.seq (.reg false r52_17 [1, 2, 3, 8, 9, 10, 12, 13, 14, 15, 17, 18, 19, 38, 39, 40, 63, 64, 65, 82])
 (.cond 82 (.exit 8) (.skip)))
 (.reg false r52_18 [1, 2, 3, 8, 9, 10, 12, 13, 14, 15, 17, 18, 38, 39, 40, 63, 64, 65])))
def r52_19 : List MOper := [o1 84 (.mov (.t 15)),
  o1 85 (.mov (.t 18)),
  o1 86 (.call 110 [(.t 84), (.t 85)]),
  o1 15 (.mov (.t 86))]
def r52_20 : List MOper := [o1 87 (.bin .add (.t 65) (.i 1)),
  o1 65 (.mov (.t 87))]
def b52_4 : MCode := .seq (.reg false r52_13 [1, 2, 3, 8, 9, 10, 12, 13, 14, 15, 38, 39, 40, 63, 64, 65, 66])
 (.seq (.cond 66 (.skip) (.exit 6))
 (.seq (.block 7 (.seq (.reg false r52_14 [1, 2, 3, 8, 9, 10, 12, 13, 14, 15, 17, 38, 39, 40, 63, 64, 65])
 (.seq (.reg false r52_15 [1, 2, 3, 8, 9, 10, 12, 13, 14, 15, 17, 18, 38, 39, 40, 63, 64, 65])
 (.seq (.block 8 (.loop [1, 2, 3, 8, 9, 10, 12, 13, 14, 15, 17, 18, 38, 39, 40, 63, 64, 65] b52_5))
 (.reg false r52_19 [1, 2, 3, 8, 9, 10, 12, 13, 14, 15, 38, 39, 40, 63, 64, 65])))))
 (.reg false r52_20 [1, 2, 3, 8, 9, 10, 12, 13, 14, 15, 38, 39, 40, 63, 64, 65])))
def r52_21 : List MOper := [o1 88 (.mov (.t 15)),
  o1 89 (.mov (.t 13)),
  o1 90 (.call 32 [(.t 88), (.t 89)])]
def r52_22 : List MOper := [o1 91 (.mov (.t 15)),
  o1 13 (.mov (.t 91))]
def b52_3 : MCode := .block 5 (.seq (.reg true r52_10 [1, 2, 3, 8, 9, 10, 12, 13, 14, 38, 39, 40])
 (.seq (.reg false r52_11 [1, 2, 3, 8, 9, 10, 12, 13, 14, 15, 38, 39, 40])
 (.seq (.seq (.reg false r52_12 [1, 2, 3, 8, 9, 10, 12, 13, 14, 15, 38, 39, 40, 63, 64, 65])
 (.block 6 (.loop [1, 2, 3, 8, 9, 10, 12, 13, 14, 15, 38, 39, 40, 63, 64, 65] b52_4)))
 (.seq (.seq (.reg false r52_21 [1, 2, 3, 8, 9, 10, 12, 13, 15, 38, 39, 40, 90])
 (.cond 90 (.exit 4) (.skip)))
 (.reg false r52_22 [1, 2, 3, 8, 9, 10, 12, 13, 38, 39, 40])))))
def r52_23 : List MOper := [o1 92 (.mov (.t 13)),
  o1 8 (.mov (.t 92))]
def r52_24 : List MOper := [o1 93 (.bin .add (.t 40) (.i 1)),
  o1 40 (.mov (.t 93))]
def b52_2 : MCode := .seq (.reg false r52_7 [1, 2, 3, 8, 9, 10, 38, 39, 40, 41])
 (.seq (.cond 41 (.skip) (.exit 2))
 (.seq (.block 3 (.seq (.reg false r52_8 [1, 2, 3, 8, 9, 10, 12, 38, 39, 40])
 (.seq (.reg false r52_9 [1, 2, 3, 8, 9, 10, 12, 13, 38, 39, 40])
 (.seq (.block 4 (.loop [1, 2, 3, 8, 9, 10, 12, 13, 38, 39, 40] b52_3))
 (.reg false r52_23 [1, 2, 3, 8, 9, 10, 38, 39, 40])))))
 (.reg false r52_24 [1, 2, 3, 8, 9, 10, 38, 39, 40])))
def r52_25 : List MOper := [o1 94 (.mov (.t 8)),
  o1 95 (.mov (.t 10)),
  o1 96 (.call 32 [(.t 94), (.t 95)])]
def r52_26 : List MOper := [o1 97 (.mov (.t 8)),
  o1 98 (.mov (.t 9)),
  o1 6 (.mov (.t 97)),
  o1 7 (.mov (.t 98))]
def r52_27 : List MOper := [o1 99 (.mov (.t 9)),
  o1 100 (.bin .add (.t 99) (.i 1)),
  o1 9 (.mov (.t 100))]
def b52_1 : MCode := .block 1 (.seq (.reg false r52_5 [1, 2, 3, 8, 9, 10])
 (.seq (.seq (.reg false r52_6 [1, 2, 3, 8, 9, 10, 38, 39, 40])
 (.block 2 (.loop [1, 2, 3, 8, 9, 10, 38, 39, 40] b52_2)))
 (.seq (.seq (.reg false r52_25 [1, 2, 3, 8, 9, 96])
 (.cond 96 (.seq (.reg false r52_26 [6, 7])
 (.ret)) (.skip)))
 (.reg false r52_27 [1, 2, 3, 8, 9]))))
def c52 : MCode := .seq (.reg false r52_1 [1, 2, 3])
 (.seq (.seq (.reg false r52_2 [1, 2, 3, 32])
 (.cond 32 (.seq (.reg false r52_3 [6, 7])
 (.ret)) (.skip)))
 (.seq (.reg false r52_4 [1, 2, 3, 8, 9])
 (.block 0 (.loop [1, 2, 3, 8, 9] b52_1))))
def m52 : MFunc := ⟨3, [.tmp 6, .tmp 7], c52⟩
def r53_1 : List MOper := [o1 6 (.mov (.c (.fz .isnil 1 [])))]
def r53_2 : List MOper := [o1 9 (.mov (.t 1)),
  o1 10 (.mov (.t 2)),
  o1 11 (.bin .mul (.t 9) (.t 10)),
  o1 12 (.mksl 1 (.bool false) (.t 11)),
  o1 7 (.mov (.t 12))]
def r53_3 : List MOper := [o1 13 (.mov (.t 7)),
  o1 14 (.len (.t 13)),
  o1 15 (.mov (.i 0))]
def r53_4 : List MOper := [o1 16 (.bin .lss (.t 15) (.t 14))]
def r53_5 : List MOper := [o1 17 (.mov (.t 15)),
  o1 8 (.mov (.t 17))]
def r53_6 : List MOper := [o1 18 (.mov (.t 7)),
  o1 19 (.mov (.t 8)),
  o1 20 (.mov (.t 8)),
  o1 21 (.mov (.t 2)),
  o1 22 (.bin .quo (.t 20) (.t 21)),
  o1 23 (.mov (.t 0)),
  o1 24 (.len (.t 23)),
  o1 25 (.bin .lss (.t 22) (.t 24)),
  o1 26 (.mov (.t 25)),
  o2 27 26 true (.mov (.t 0)),
  o2 28 26 true (.mov (.t 8)),
  o2 29 26 true (.mov (.t 2)),
  o2 30 26 true (.bin .quo (.t 28) (.t 29)),
  o2 31 26 true (.ixs 1 (.t 27) (.t 30)),
  o2 32 26 true (.ld false 1 (.t 31)),
  o1 33 (.pick (.t 26) (.t 32) (.c (.bool false))),
  o1 34 (.ixs 1 (.t 18) (.t 19)),
  n1 (.st 1 (.t 34) (.t 33))]
def r53_7 : List MOper := [o1 35 (.bin .add (.t 15) (.i 1)),
  o1 15 (.mov (.t 35))]
def b53_1 : MCode := .seq (.reg false r53_4 [0, 2, 7, 14, 15, 16])
 (.seq (.cond 16 (.skip) (.exit 0))
 (.seq (.block 1 (.seq (.reg false r53_5 [0, 2, 7, 8, 14, 15])
 (.reg false r53_6 [0, 2, 7, 14, 15])))
 (.reg false r53_7 [0, 2, 7, 14, 15])))
def r53_8 : List MOper := [o1 36 (.mov (.t 7)),
  o1 6 (.mov (.t 36))]
def c53 : MCode := .seq (.reg false r53_1 [0, 1, 2])
 (.seq (.reg false r53_2 [0, 2, 7])
 (.seq (.seq (.reg false r53_3 [0, 2, 7, 14, 15])
 (.block 0 (.loop [0, 2, 7, 14, 15] b53_1)))
 (.seq (.reg false r53_8 [6])
 (.ret))))
def m53 : MFunc := ⟨3, [.tmp 6], c53⟩
def r54_1 : List MOper := [o1 4 (.box (.t 0)),
  o1 8 (.mov (.i 0))]
def r54_2 : List MOper := [o1 10 (.mov (.t 1)),
  o1 11 (.len (.t 10)),
  o1 12 (.mx [(.i 1), (.t 11)]),
  o1 9 (.mov (.t 12))]
def r54_3 : List MOper := [o1 13 (.ld true 2 (.t 4)),
  o1 14 (.call 35 [(.t 13)]),
  o1 15 (.bin .neq (.t 14) (.i 0)),
  o1 16 (.mov (.t 15)),
  o2 17 16 false (.mov (.t 1)),
  o2 18 16 false (.len (.t 17)),
  o2 19 16 false (.bin .gtr (.t 18) (.i 4)),
  o1 20 (.pick (.t 16) (.c (.bool true)) (.t 19)),
  o1 21 (.mov (.t 20)),
  o2 22 21 false (.mov (.t 2)),
  o2 23 21 false (.bin .lss (.t 22) (.i 0)),
  o1 24 (.pick (.t 21) (.c (.bool true)) (.t 23)),
  o1 25 (.mov (.t 24)),
  o2 26 25 false (.mov (.t 2)),
  o2 27 25 false (.fld 0 (.t 4)),
  o2 28 25 false (.ld false 1 (.t 27)),
  o2 29 25 false (.len (.t 28)),
  o2 30 25 false (.bin .geq (.t 26) (.t 29)),
  o1 31 (.pick (.t 25) (.c (.bool true)) (.t 30)),
  o1 32 (.mov (.t 31)),
  o2 33 32 false (.mov (.t 3)),
  o2 34 32 false (.bin .lss (.t 33) (.i 0)),
  o1 35 (.pick (.t 32) (.c (.bool true)) (.t 34)),
  o1 36 (.mov (.t 35)),
  o2 37 36 false (.mov (.t 3)),
  o2 38 36 false (.mov (.t 9)),
  o2 39 36 false (.bin .geq (.t 37) (.t 38)),
  o1 40 (.pick (.t 36) (.c (.bool true)) (.t 39))]
def r54_4 : List MOper := [o1 8 (.mov (.i (-1)))]
def r54_5 : List MOper := [o1 41 (.mov (.t 1)),
  o1 42 (.len (.t 41)),
  o1 43 (.bin .eql (.t 42) (.i 0)),
  o1 44 (.mov (.t 43)),
  o2 45 44 false (.mov (.t 1)),
  o2 46 44 false (.mov (.t 3)),
  o2 47 44 false (.ixs 1 (.t 45) (.t 46)),
  o2 48 44 false (.ld false 1 (.t 47)),
  o2 49 44 false (.mov (.t 2)),
  o2 50 44 false (.call 48 [(.t 48), (.t 49)]),
  o1 51 (.pick (.t 44) (.c (.bool true)) (.t 50))]
def r54_6 : List MOper := [o1 52 (.mov (.t 3)),
  o1 53 (.bin .add (.t 52) (.i 1)),
  o1 54 (.mov (.t 9)),
  o1 55 (.bin .rem (.t 53) (.t 54)),
  o1 8 (.mov (.t 55))]
def r54_7 : List MOper := [o1 56 (.mov (.t 3)),
  o1 8 (.mov (.t 56))]
def c54 : MCode := .seq (.reg false r54_1 [1, 2, 3, 4])
 (.seq (.reg false r54_2 [1, 2, 3, 4, 9])
 (.seq (.seq (.reg false r54_3 [1, 2, 3, 9, 40])
 (.cond 40 (.seq (.reg false r54_4 [8])
 (.ret)) (.skip)))
 (.seq (.seq (.reg false r54_5 [3, 9, 51])
 (.cond 51 (.seq (.reg false r54_6 [8])
 (.ret)) (.skip)))
 (.seq (.reg false r54_7 [8])
 (.ret)))))
def m54 : MFunc := ⟨3, [.tmp 8], c54⟩
def r55_1 : List MOper := [o1 4 (.box (.t 0)),
  o1 8 (.mov (.i 0))]
def r55_2 : List MOper := [o1 10 (.ld true 2 (.t 4)),
  o1 11 (.call 69 [(.t 10)]),
  o1 12 (.bin .neq (.t 11) (.i 0)),
  o1 13 (.mov (.t 12)),
  o2 14 13 false (.mov (.t 1)),
  o2 15 13 false (.len (.t 14)),
  o2 16 13 false (.bin .gtr (.t 15) (.i 4)),
  o1 17 (.pick (.t 13) (.c (.bool true)) (.t 16)),
  o1 18 (.mov (.t 17)),
  o2 19 18 false (.mov (.t 2)),
  o2 20 18 false (.bin .lss (.t 19) (.i 0)),
  o1 21 (.pick (.t 18) (.c (.bool true)) (.t 20)),
  o1 22 (.mov (.t 21)),
  o2 23 22 false (.mov (.t 2)),
  o2 24 22 false (.fld 0 (.t 4)),
  o2 25 22 false (.ld false 1 (.t 24)),
  o2 26 22 false (.len (.t 25)),
  o2 27 22 false (.bin .geq (.t 23) (.t 26)),
  o1 28 (.pick (.t 22) (.c (.bool true)) (.t 27))]
def r55_3 : List MOper := [o1 8 (.mov (.i (-1)))]
def r55_4 : List MOper := [o1 29 (.ld true 2 (.t 4)),
  o1 30 (.mov (.t 1)),
  o1 31 (.call 105 [(.t 29), (.t 30)]),
  o1 9 (.mov (.t 31))]
def r55_5 : List MOper := [o1 32 (.mov (.t 3)),
  o1 33 (.bin .lss (.t 32) (.i 0)),
  o1 34 (.mov (.t 33)),
  o2 35 34 false (.mov (.t 3)),
  o2 36 34 false (.mov (.t 9)),
  o2 37 34 false (.len (.t 36)),
  o2 38 34 false (.bin .geq (.t 35) (.t 37)),
  o1 39 (.pick (.t 34) (.c (.bool true)) (.t 38))]
def r55_6 : List MOper := [o1 8 (.mov (.i (-1)))]
def r55_7 : List MOper := [o1 40 (.mov (.t 9)),
  o1 41 (.mov (.t 2)),
  o1 42 (.mov (.t 3)),
  o1 43 (.call 107 [(.t 40), (.t 41), (.t 42)]),
  o1 8 (.mov (.t 43))]
def c55 : MCode := .seq (.reg false r55_1 [1, 2, 3, 4])
 (.seq (.seq (.reg false r55_2 [1, 2, 3, 4, 28])
 (.cond 28 (.seq (.reg false r55_3 [8])
 (.ret)) (.skip)))
 (.seq (.reg false r55_4 [2, 3, 9])
 (.seq (.seq (.reg false r55_5 [2, 3, 9, 39])
 (.cond 39 (.seq (.reg false r55_6 [8])
 (.ret)) (.skip)))
 (.seq (.reg false r55_7 [8])
 (.ret)))))
def m55 : MFunc := ⟨3, [.tmp 8], c55⟩
def r56_1 : List MOper := [o1 8 (.mov (.c (.bool false)))]
def r56_2 : List MOper := [o1 11 (.mov (.t 0)),
  o1 12 (.call 114 [(.t 11)]),
  o1 13 (.not (.t 12))]
def r56_3 : List MOper := [o1 8 (.mov (.c (.bool false)))]
def r56_4 : List MOper := [o1 14 (.mov (.t 3)),
  o1 15 (.len (.t 14)),
  o1 16 (.mov (.i 0))]
def r56_5 : List MOper := [o1 17 (.bin .lss (.t 16) (.t 15))]
def r56_6 : List MOper := [o1 18 (.ixs 1 (.t 14) (.t 16)),
  o1 19 (.ld false 1 (.t 18)),
  o1 10 (.mov (.t 19))]
def r56_7 : List MOper := [o1 20 (.mov (.t 0)),
  o1 21 (.mov (.t 1)),
  o1 22 (.mov (.t 0)),
  o1 23 (.mov (.t 10)),
  o1 24 (.call 116 [(.t 22), (.t 23)]),
  o1 25 (.mov (.t 2)),
  o1 26 (.call 115 [(.t 20), (.t 21), (.t 24), (.t 25)])]
def r56_8 : List MOper := [o1 8 (.mov (.c (.bool false)))]
def r56_9 : List MOper := [o1 27 (.bin .add (.t 16) (.i 1)),
  o1 16 (.mov (.t 27))]
def b56_1 : MCode := .seq (.reg false r56_5 [0, 1, 2, 14, 15, 16, 17])
 (.seq (.cond 17 (.skip) (.exit 0))
 (.seq (.block 1 (.seq (.reg false r56_6 [0, 1, 2, 10, 14, 15, 16])
 (.seq (.reg false r56_7 [0, 1, 2, 14, 15, 16, 26])
 (.cond 26 (.seq (.reg false r56_8 [8])
 (.ret)) (.skip)))))
 (.reg false r56_9 [0, 1, 2, 14, 15, 16])))
def r56_10 : List MOper := [o1 8 (.mov (.c (.bool true)))]
def c56 : MCode := .seq (.reg false r56_1 [0, 1, 2, 3])
 (.seq (.seq (.reg false r56_2 [0, 1, 2, 3, 13])
 (.cond 13 (.seq (.reg false r56_3 [8])
 (.ret)) (.skip)))
 (.seq (.seq (.reg false r56_4 [0, 1, 2, 14, 15, 16])
 (.block 0 (.loop [0, 1, 2, 14, 15, 16] b56_1)))
 (.seq (.reg false r56_10 [8])
 (.ret))))
def m56 : MFunc := ⟨3, [.tmp 8], c56⟩
def r57_1 : List MOper := [o1 6 (.mov (.c (.bool false)))]
def r57_2 : List MOper := [o1 11 (.mov (.t 0)),
  o1 12 (.len (.t 11)),
  o1 13 (.mov (.i 0))]
def r57_3 : List MOper := [o1 14 (.bin .lss (.t 13) (.t 12))]
def r57_4 : List MOper := [o1 15 (.mov (.t 13)),
  o1 16 (.ixs 1 (.t 11) (.t 13)),
  o1 17 (.ld false 1 (.t 16)),
  o1 7 (.mov (.t 15)),
  o1 8 (.mov (.t 17))]
def r57_5 : List MOper := [o1 18 (.mov (.t 8)),
  o1 19 (.len (.t 18)),
  o1 20 (.mov (.i 0))]
def r57_6 : List MOper := [o1 21 (.bin .lss (.t 20) (.t 19))]
def r57_7 : List MOper := [o1 22 (.ixs 1 (.t 18) (.t 20)),
  o1 23 (.ld false 1 (.t 22)),
  o1 10 (.mov (.t 23))]
def r57_8 : List MOper := [o1 24 (.mov (.t 1)),
  o1 25 (.mov (.t 7)),
  o1 26 (.mov (.t 2)),
  o1 27 (.bin .quo (.t 25) (.t 26)),
  o1 28 (.ixs 1 (.t 24) (.t 27)),
  o1 29 (.ld false 1 (.t 28)),
  o1 30 (.mov (.t 29)),
  o2 31 30 true (.mov (.t 1)),
  o2 32 30 true (.mov (.t 10)),
  o2 33 30 true (.mov (.t 2)),
  o2 34 30 true (.bin .quo (.t 32) (.t 33)),
  o2 35 30 true (.ixs 1 (.t 31) (.t 34)),
  o2 36 30 true (.ld false 1 (.t 35)),
  o2 37 30 true (.not (.t 36)),
  o1 38 (.pick (.t 30) (.t 37) (.c (.bool false)))]
def r57_9 : List MOper := [o1 6 (.mov (.c (.bool false)))]
def r57_10 : List MOper := [o1 39 (.bin .add (.t 20) (.i 1)),
  o1 20 (.mov (.t 39))]
def b57_2 : MCode := .seq (.reg false r57_6 [1, 2, 7, 11, 12, 13, 18, 19, 20, 21])
 (.seq (.cond 21 (.skip) (.exit 2))
 (.seq (.block 3 (.seq (.reg false r57_7 [1, 2, 7, 10, 11, 12, 13, 18, 19, 20])
 (.seq (.reg false r57_8 [1, 2, 7, 11, 12, 13, 18, 19, 20, 38])
 (.cond 38 (.seq (.reg false r57_9 [6])
 (.ret)) (.skip)))))
 (.reg false r57_10 [1, 2, 7, 11, 12, 13, 18, 19, 20])))
def r57_11 : List MOper := [o1 40 (.bin .add (.t 13) (.i 1)),
  o1 13 (.mov (.t 40))]
def b57_1 : MCode := .seq (.reg false r57_3 [1, 2, 11, 12, 13, 14])
 (.seq (.cond 14 (.skip) (.exit 0))
 (.seq (.block 1 (.seq (.reg false r57_4 [1, 2, 7, 8, 11, 12, 13])
 (.seq (.reg false r57_5 [1, 2, 7, 11, 12, 13, 18, 19, 20])
 (.block 2 (.loop [1, 2, 7, 11, 12, 13, 18, 19, 20] b57_2)))))
 (.reg false r57_11 [1, 2, 11, 12, 13])))
def r57_12 : List MOper := [o1 6 (.mov (.c (.bool true)))]
def c57 : MCode := .seq (.reg false r57_1 [0, 1, 2])
 (.seq (.seq (.reg false r57_2 [1, 2, 11, 12, 13])
 (.block 0 (.loop [1, 2, 11, 12, 13] b57_1)))
 (.seq (.reg false r57_12 [6])
 (.ret)))
def m57 : MFunc := ⟨3, [.tmp 6], c57⟩
def r58_1 : List MOper := [o1 3 (.box (.t 0)),
  o1 6 (.mov (.c (.fz .isnil 1 [])))]
def r58_2 : List MOper := [o1 10 (.ld true 2 (.t 3)),
  o1 11 (.mov (.t 1)),
  o1 12 (.mov (.t 2)),
  o1 13 (.call 117 [(.t 10), (.t 11), (.t 12)]),
  o1 9 (.mov (.t 13)),
  o1 14 (.ext (.t 9) 0),
  o1 15 (.ext (.t 9) 1),
  o1 7 (.mov (.t 14)),
  o1 8 (.mov (.t 15))]
def r58_3 : List MOper := [o1 16 (.mov (.t 7)),
  o1 6 (.mov (.t 16))]
def c58 : MCode := .seq (.reg false r58_1 [1, 2, 3])
 (.seq (.reg false r58_2 [7])
 (.seq (.reg false r58_3 [6])
 (.ret)))
def m58 : MFunc := ⟨3, [.tmp 6], c58⟩
def r59_1 : List MOper := [o1 4 (.mov (.c (.bool false)))]
def r59_2 : List MOper := [o1 10 (.mov (.t 0)),
  o1 11 (.len (.t 10)),
  o1 12 (.mov (.i 0))]
def r59_3 : List MOper := [o1 13 (.bin .lss (.t 12) (.t 11))]
def r59_4 : List MOper := [o1 14 (.ixs 1 (.t 10) (.t 12)),
  o1 15 (.ld false 1 (.t 14)),
  o1 6 (.mov (.t 15))]
def r59_5 : List MOper := [o1 7 (.mov (.c (.bool false)))]
def r59_6 : List MOper := [o1 16 (.mov (.t 1)),
  o1 17 (.len (.t 16)),
  o1 18 (.mov (.i 0))]
def r59_7 : List MOper := [o1 19 (.bin .lss (.t 18) (.t 17))]
def r59_8 : List MOper := [o1 20 (.ixs 1 (.t 16) (.t 18)),
  o1 21 (.ld false 1 (.t 20)),
  o1 9 (.mov (.t 21))]
def r59_9 : List MOper := [o1 22 (.mov (.t 7)),
  o1 23 (.mov (.t 22)),
  o2 24 23 false (.mov (.t 6)),
  o2 25 23 false (.mov (.t 9)),
  o2 26 23 false (.call 48 [(.t 24), (.t 25)]),
  o1 27 (.pick (.t 23) (.c (.bool true)) (.t 26)),
  o1 7 (.mov (.t 27))]
def r59_10 : List MOper := [o1 28 (.bin .add (.t 18) (.i 1)),
  o1 18 (.mov (.t 28))]
def b59_2 : MCode := .seq (.reg false r59_7 [1, 6, 7, 10, 11, 12, 16, 17, 18, 19])
 (.seq (.cond 19 (.skip) (.exit 2))
 (.seq (.block 3 (.seq (.reg false r59_8 [1, 6, 7, 9, 10, 11, 12, 16, 17, 18])
 (.reg false r59_9 [1, 6, 7, 10, 11, 12, 16, 17, 18])))
 (.reg false r59_10 [1, 6, 7, 10, 11, 12, 16, 17, 18])))
def r59_11 : List MOper := [o1 29 (.mov (.t 7)),
  o1 30 (.not (.t 29))]
def r59_12 : List MOper := [o1 4 (.mov (.c (.bool false)))]
def r59_13 : List MOper := [o1 31 (.bin .add (.t 12) (.i 1)),
  o1 12 (.mov (.t 31))]
def b59_1 : MCode := .seq (.reg false r59_3 [1, 10, 11, 12, 13])
 (.seq (.cond 13 (.skip) (.exit 0))
 (.seq (.block 1 (.seq (.reg false r59_4 [1, 6, 10, 11, 12])
 (.seq (.reg false r59_5 [1, 6, 7, 10, 11, 12])
 (.seq (.seq (.reg false r59_6 [1, 6, 7, 10, 11, 12, 16, 17, 18])
 (.block 2 (.loop [1, 6, 7, 10, 11, 12, 16, 17, 18] b59_2)))
 (.seq (.reg false r59_11 [1, 10, 11, 12, 30])
 (.cond 30 (.seq (.reg false r59_12 [4])
 (.ret)) (.skip)))))))
 (.reg false r59_13 [1, 10, 11, 12])))
def r59_14 : List MOper := [o1 4 (.mov (.c (.bool true)))]
def c59 : MCode := .seq (.reg false r59_1 [0, 1])
 (.seq (.seq (.reg false r59_2 [1, 10, 11, 12])
 (.block 0 (.loop [1, 10, 11, 12] b59_1)))
 (.seq (.reg false r59_14 [4])
 (.ret)))
def m59 : MFunc := ⟨3, [.tmp 4], c59⟩
def r60_1 : List MOper := [o1 6 (.mov (.c (.bool false)))]
def r60_2 : List MOper := [o1 14 (.mov (.t 0)),
  o1 15 (.len (.t 14)),
  o1 7 (.mov (.t 15))]
def r60_3 : List MOper := [o1 16 (.mov (.t 0)),
  o1 17 (.len (.t 16)),
  o1 18 (.mov (.i 0))]
def r60_4 : List MOper := [o1 19 (.bin .lss (.t 18) (.t 17))]
def r60_5 : List MOper := [o1 20 (.ixs 1 (.t 16) (.t 18)),
  o1 21 (.ld false 1 (.t 20)),
  o1 9 (.mov (.t 21))]
def r60_6 : List MOper := [o1 22 (.mov (.t 7)),
  o1 23 (.mov (.t 9)),
  o1 24 (.len (.t 23)),
  o1 25 (.bin .add (.t 22) (.t 24)),
  o1 7 (.mov (.t 25))]
def r60_7 : List MOper := [o1 26 (.bin .add (.t 18) (.i 1)),
  o1 18 (.mov (.t 26))]
def b60_1 : MCode := .seq (.reg false r60_4 [0, 1, 2, 7, 16, 17, 18, 19])
 (.seq (.cond 19 (.skip) (.exit 0))
 (.seq (.block 1 (.seq (.reg false r60_5 [0, 1, 2, 7, 9, 16, 17, 18])
 (.reg false r60_6 [0, 1, 2, 7, 16, 17, 18])))
 (.reg false r60_7 [0, 1, 2, 7, 16, 17, 18])))
def r60_8 : List MOper := [o1 27 (.mov (.t 2)),
  o1 28 (.len (.t 27)),
  o1 29 (.mov (.i 0))]
def r60_9 : List MOper := [o1 30 (.bin .lss (.t 29) (.t 28))]
def r60_10 : List MOper := [o1 31 (.ixs 1 (.t 27) (.t 29)),
  o1 32 (.ld false 1 (.t 31)),
  o1 11 (.mov (.t 32))]
def r60_11 : List MOper := [o1 33 (.mov (.t 11)),
  o1 34 (.len (.t 33)),
  o1 35 (.bin .gtr (.t 34) (.i 8))]
def r60_12 : List MOper := [o1 6 (.mov (.c (.bool false)))]
def r60_13 : List MOper := [o1 36 (.mov (.t 11)),
  o1 37 (.len (.t 36)),
  o1 38 (.mov (.i 0))]
def r60_14 : List MOper := [o1 39 (.bin .lss (.t 38) (.t 37))]
def r60_15 : List MOper := [o1 40 (.ixs 1 (.t 36) (.t 38)),
  o1 41 (.ld false 1 (.t 40)),
  o1 13 (.mov (.t 41))]
def r60_16 : List MOper := [o1 42 (.mov (.t 7)),
  o1 43 (.mov (.t 13)),
  o1 44 (.len (.t 43)),
  o1 45 (.bin .add (.t 42) (.t 44)),
  o1 7 (.mov (.t 45))]
def r60_17 : List MOper := [o1 46 (.bin .add (.t 38) (.i 1)),
  o1 38 (.mov (.t 46))]
def b60_3 : MCode := .seq (.reg false r60_14 [0, 1, 7, 27, 28, 29, 36, 37, 38, 39])
 (.seq (.cond 39 (.skip) (.exit 4))
 (.seq (.block 5 (.seq (.reg false r60_15 [0, 1, 7, 13, 27, 28, 29, 36, 37, 38])
 (.reg false r60_16 [0, 1, 7, 27, 28, 29, 36, 37, 38])))
 (.reg false r60_17 [0, 1, 7, 27, 28, 29, 36, 37, 38])))
def r60_18 : List MOper := [o1 47 (.bin .add (.t 29) (.i 1)),
  o1 29 (.mov (.t 47))]
def b60_2 : MCode := .seq (.reg false r60_9 [0, 1, 7, 27, 28, 29, 30])
 (.seq (.cond 30 (.skip) (.exit 2))
 (.seq (.block 3 (.seq (.reg false r60_10 [0, 1, 7, 11, 27, 28, 29])
 (.seq (.seq (.reg false r60_11 [0, 1, 7, 11, 27, 28, 29, 35])
 (.cond 35 (.seq (.reg false r60_12 [6])
 (.ret)) (.skip)))
 (.seq (.reg false r60_13 [0, 1, 7, 27, 28, 29, 36, 37, 38])
 (.block 4 (.loop [0, 1, 7, 27, 28, 29, 36, 37, 38] b60_3))))))
 (.reg false r60_18 [0, 1, 7, 27, 28, 29])))
def r60_19 : List MOper := [o1 48 (.mov (.t 7)),
  o1 49 (.mov (.t 1)),
  o1 50 (.len (.t 49)),
  o1 51 (.bin .add (.t 48) (.t 50)),
  o1 52 (.bin .leq (.t 51) (.i 1500)),
  o1 53 (.mov (.t 52)),
  o2 54 53 true (.mov (.t 0)),
  o2 55 53 true (.len (.t 54)),
  o2 56 53 true (.bin .leq (.t 55) (.i 120)),
  o1 57 (.pick (.t 53) (.t 56) (.c (.bool false))),
  o1 6 (.mov (.t 57))]
def c60 : MCode := .seq (.reg false r60_1 [0, 1, 2])
 (.seq (.reg false r60_2 [0, 1, 2, 7])
 (.seq (.seq (.reg false r60_3 [0, 1, 2, 7, 16, 17, 18])
 (.block 0 (.loop [0, 1, 2, 7, 16, 17, 18] b60_1)))
 (.seq (.seq (.reg false r60_8 [0, 1, 7, 27, 28, 29])
 (.block 2 (.loop [0, 1, 7, 27, 28, 29] b60_2)))
 (.seq (.reg false r60_19 [6])
 (.ret)))))
def m60 : MFunc := ⟨3, [.tmp 6], c60⟩
def r61_1 : List MOper := [o1 0 (.mov (.c (.bool false)))]
def r61_2 : List MOper := [o1 3 (.bsl false 1 [(.i 1)]),
  o1 4 (.bsl false 1 [(.i 0)]),
  o1 5 (.bsl false 1 [(.t 3), (.t 4)]),
  o1 1 (.mov (.t 5))]
def r61_3 : List MOper := [o1 6 (.bsl false 1 [(.c (.bool true))]),
  o1 2 (.mov (.t 6))]
def r61_4 : List MOper := [o1 7 (.mov (.t 1)),
  o1 8 (.bsl false 1 [(.i 1), (.i 2)]),
  o1 9 (.mov (.t 2)),
  o1 10 (.call 64 [(.t 7), (.t 8), (.t 9)]),
  o1 11 (.mov (.t 10)),
  o2 12 11 true (.mov (.t 1)),
  o2 13 11 true (.bsl false 1 [(.i 3), (.i 2)]),
  o2 14 11 true (.mov (.t 2)),
  o2 15 11 true (.call 64 [(.t 12), (.t 13), (.t 14)]),
  o2 16 11 true (.not (.t 15)),
  o1 17 (.pick (.t 11) (.t 16) (.c (.bool false))),
  o1 18 (.mov (.t 17)),
  o2 19 18 true (.mov (.t 1)),
  o2 20 18 true (.mov (.t 2)),
  o2 21 18 true (.bsl false 1 [(.c (.bool true))]),
  o2 22 18 true (.bsl false 1 [(.t 21)]),
  o2 23 18 true (.call 118 [(.t 19), (.t 20), (.c (.fz .isnil 1 [])), (.t 22)]),
  o1 24 (.pick (.t 18) (.t 23) (.c (.bool false))),
  o1 25 (.mov (.t 24)),
  o2 26 25 true (.mov (.t 1)),
  o2 27 25 true (.mov (.t 2)),
  o2 28 25 true (.bsl false 1 [(.c (.fz .isnil 1 []))]),
  o2 29 25 true (.call 118 [(.t 26), (.t 27), (.c (.fz .isnil 1 [])), (.t 28)]),
  o2 30 25 true (.not (.t 29)),
  o1 31 (.pick (.t 25) (.t 30) (.c (.bool false))),
  o1 32 (.mov (.t 31)),
  o2 33 32 true (.mov (.t 1)),
  o2 34 32 true (.mov (.t 2)),
  o2 35 32 true (.bsl false 1 [(.c (.fz .isnil 1 []))]),
  o2 36 32 true (.call 119 [(.t 33), (.t 34), (.c (.fz .isnil 1 [])), (.t 35)]),
  o1 37 (.pick (.t 32) (.t 36) (.c (.bool false))),
  o1 0 (.mov (.t 37))]
def c61 : MCode := .seq (.reg false r61_1 [])
 (.seq (.reg false r61_2 [1])
 (.seq (.reg false r61_3 [1, 2])
 (.seq (.reg false r61_4 [0])
 (.ret))))
def m61 : MFunc := ⟨3, [.tmp 0], c61⟩
def r62_1 : List MOper := [o1 5 (.box (.t 0)),
  o1 10 (.mov (.c (.bool false)))]
def r62_2 : List MOper := [o1 16 (.ld true 2 (.t 5)),
  o1 17 (.call 69 [(.t 16)]),
  o1 18 (.bin .neq (.t 17) (.i 0)),
  o1 19 (.mov (.t 18)),
  o2 20 19 false (.mov (.t 1)),
  o2 21 19 false (.fld 0 (.t 5)),
  o2 22 19 false (.ld false 1 (.t 21)),
  o2 23 19 false (.len (.t 22)),
  o2 24 19 false (.call 120 [(.t 20), (.t 23)]),
  o2 25 19 false (.not (.t 24)),
  o1 26 (.pick (.t 19) (.c (.bool true)) (.t 25)),
  o1 27 (.mov (.t 26)),
  o2 28 27 false (.mov (.t 2)),
  o2 29 27 false (.bin .neq (.t 28) (.i 0)),
  o2 30 27 false (.mov (.t 29)),
  o2 31 30 true (.mov (.t 2)),
  o2 32 30 true (.bin .neq (.t 31) (.i 1)),
  o2 33 27 false (.pick (.t 30) (.t 32) (.c (.bool false))),
  o1 34 (.pick (.t 27) (.c (.bool true)) (.t 33))]
def r62_3 : List MOper := [o1 10 (.mov (.c (.bool false)))]
def r62_4 : List MOper := [o1 35 (.ld true 2 (.t 5)),
  o1 36 (.mov (.t 2)),
  o1 37 (.mov (.t 3)),
  o1 38 (.call 45 [(.t 35), (.t 36), (.t 37)]),
  o1 11 (.alloc [.fz .isnil 1 [], .fz .isnil 1 []] []),
  n1 (.st 2 (.t 11) (.t 38))]
def r62_5 : List MOper := [o1 39 (.ld true 2 (.t 11)),
  o1 40 (.mov (.t 4)),
  o1 41 (.call 47 [(.t 39), (.t 40)]),
  o1 12 (.mov (.t 41))]
def r62_6 : List MOper := [o1 42 (.mov (.t 1)),
  o1 43 (.len (.t 42)),
  o1 44 (.mksl 1 (.int .i64 0) (.t 43)),
  o1 13 (.mov (.t 44))]
def r62_7 : List MOper := [o1 45 (.mov (.t 1)),
  o1 46 (.len (.t 45)),
  o1 47 (.mov (.i 0))]
def r62_8 : List MOper := [o1 48 (.bin .lss (.t 47) (.t 46))]
def r62_9 : List MOper := [o1 49 (.mov (.t 47)),
  o1 50 (.ixs 1 (.t 45) (.t 47)),
  o1 51 (.ld false 1 (.t 50)),
  o1 14 (.mov (.t 49)),
  o1 15 (.mov (.t 51))]
def r62_10 : List MOper := [o1 52 (.mov (.t 12)),
  o1 53 (.mov (.t 14)),
  o1 54 (.ixs 1 (.t 52) (.t 53)),
  o1 55 (.ld false 1 (.t 54)),
  o1 56 (.mov (.t 55)),
  o2 57 56 true (.fld 0 (.t 11)),
  o2 58 56 true (.ld false 1 (.t 57)),
  o2 59 56 true (.mov (.t 14)),
  o2 60 56 true (.ixs 1 (.t 58) (.t 59)),
  o2 61 56 true (.ld false 1 (.t 60)),
  o2 62 56 true (.mov (.t 2)),
  o2 63 56 true (.bin .eql (.t 61) (.t 62)),
  o1 64 (.pick (.t 56) (.t 63) (.c (.bool false))),
  o1 65 (.mov (.t 64)),
  o2 66 65 true (.fld 1 (.t 11)),
  o2 67 65 true (.ld false 1 (.t 66)),
  o2 68 65 true (.mov (.t 14)),
  o2 69 65 true (.ixs 1 (.t 67) (.t 68)),
  o2 70 65 true (.ld false 1 (.t 69)),
  o2 71 65 true (.len (.t 70)),
  o2 72 65 true (.bin .eql (.t 71) (.i 0)),
  o1 73 (.pick (.t 65) (.t 72) (.c (.bool false)))]
def r62_11 : List MOper := [o1 10 (.mov (.c (.bool false)))]
def r62_12 : List MOper := [o1 74 (.mov (.t 13)),
  o1 75 (.mov (.t 14)),
  o1 76 (.mov (.t 15)),
  o1 77 (.ixs 1 (.t 74) (.t 75)),
  n1 (.st 1 (.t 77) (.t 76))]
def r62_13 : List MOper := [o1 78 (.mov (.t 2)),
  o1 79 (.bin .eql (.t 78) (.i 0))]
def r62_14 : List MOper := [o1 80 (.mov (.t 13)),
  o1 81 (.mov (.t 14)),
  o1 82 (.ixs 1 (.t 80) (.t 81)),
  o1 83 (.ld false 1 (.t 82)),
  o1 84 (.bin .add (.t 83) (.i 1)),
  o1 85 (.ixs 1 (.t 80) (.t 81)),
  n1 (.st 1 (.t 85) (.t 84))]
def r62_15 : List MOper := [o1 86 (.bin .add (.t 47) (.i 1)),
  o1 47 (.mov (.t 86))]
def b62_1 : MCode := .seq (.reg false r62_8 [2, 11, 12, 13, 45, 46, 47, 48])
 (.seq (.cond 48 (.skip) (.exit 0))
 (.seq (.block 1 (.seq (.reg false r62_9 [2, 11, 12, 13, 14, 15, 45, 46, 47])
 (.seq (.seq (.reg false r62_10 [2, 11, 12, 13, 14, 15, 45, 46, 47, 73])
 (.cond 73 (.seq (.reg false r62_11 [10])
 (.ret)) (.skip)))
 (.seq (.reg false r62_12 [2, 11, 12, 13, 14, 45, 46, 47])
 (.seq (.reg false r62_13 [2, 11, 12, 13, 14, 45, 46, 47, 79])
 (.cond 79 (.reg false r62_14 [2, 11, 12, 13, 45, 46, 47]) (.skip)))))))
 (.reg false r62_15 [2, 11, 12, 13, 45, 46, 47])))
def r62_16 : List MOper := [o1 87 (.fld 1 (.t 11)),
  o1 88 (.ld false 1 (.t 87)),
  o1 89 (.mov (.t 13)),
  o1 90 (.mov (.t 12)),
  o1 91 (.call 121 [(.t 88), (.t 89), (.t 90)]),
  o1 10 (.mov (.t 91))]
def c62 : MCode := .seq (.reg false r62_1 [1, 2, 3, 4, 5])
 (.seq (.seq (.reg false r62_2 [1, 2, 3, 4, 5, 34])
 (.cond 34 (.seq (.reg false r62_3 [10])
 (.ret)) (.skip)))
 (.seq (.reg false r62_4 [1, 2, 4, 11])
 (.seq (.reg false r62_5 [1, 2, 11, 12])
 (.seq (.reg false r62_6 [1, 2, 11, 12, 13])
 (.seq (.seq (.reg false r62_7 [2, 11, 12, 13, 45, 46, 47])
 (.block 0 (.loop [2, 11, 12, 13, 45, 46, 47] b62_1)))
 (.seq (.reg false r62_16 [10])
 (.ret)))))))
def m62 : MFunc := ⟨3, [.tmp 10], c62⟩
def r63_1 : List MOper := [o1 5 (.box (.t 0)),
  o1 10 (.mov (.c (.bool false)))]
def r63_2 : List MOper := [o1 14 (.ld true 2 (.t 5)),
  o1 15 (.mov (.t 1)),
  o1 16 (.call 29 [(.t 14), (.t 15)]),
  o1 17 (.not (.t 16)),
  o1 18 (.mov (.t 17)),
  o2 19 18 false (.mov (.t 2)),
  o2 20 18 false (.call 122 [(.t 19)]),
  o2 21 18 false (.not (.t 20)),
  o1 22 (.pick (.t 18) (.c (.bool true)) (.t 21))]
def r63_3 : List MOper := [o1 10 (.mov (.c (.bool false)))]
def r63_4 : List MOper := [o1 23 (.ld true 2 (.t 5)),
  o1 24 (.mov (.t 2)),
  o1 25 (.mov (.t 3)),
  o1 26 (.call 123 [(.t 23), (.t 24), (.t 25)]),
  o1 11 (.alloc [.fz .isnil 1 [], .fz .isnil 1 []] []),
  n1 (.st 2 (.t 11) (.t 26))]
def r63_5 : List MOper := [o1 27 (.ld true 2 (.t 11)),
  o1 28 (.mov (.t 4)),
  o1 29 (.call 124 [(.t 27), (.t 28)]),
  o1 12 (.mov (.t 29))]
def r63_6 : List MOper := [o1 30 (.mov (.t 12)),
  o1 31 (.len (.t 30)),
  o1 32 (.mov (.i 0))]
def r63_7 : List MOper := [o1 33 (.bin .lss (.t 32) (.t 31))]
def r63_8 : List MOper := [o1 34 (.mov (.t 32)),
  o1 13 (.mov (.t 34))]
def r63_9 : List MOper := [o1 35 (.mov (.t 12)),
  o1 36 (.mov (.t 13)),
  o1 37 (.ixs 1 (.t 35) (.t 36)),
  o1 38 (.ld false 1 (.t 37)),
  o1 39 (.mov (.t 38)),
  o2 40 39 true (.fld 0 (.t 5)),
  o2 41 39 true (.ld false 1 (.t 40)),
  o2 42 39 true (.mov (.t 13)),
  o2 43 39 true (.ixs 1 (.t 41) (.t 42)),
  o2 44 39 true (.ld false 1 (.t 43)),
  o2 45 39 true (.mov (.t 2)),
  o2 46 39 true (.bin .eql (.t 44) (.t 45)),
  o1 47 (.pick (.t 39) (.t 46) (.c (.bool false))),
  o1 48 (.mov (.t 47)),
  o2 49 48 true (.fld 1 (.t 11)),
  o2 50 48 true (.ld false 1 (.t 49)),
  o2 51 48 true (.mov (.t 13)),
  o2 52 48 true (.ixs 1 (.t 50) (.t 51)),
  o2 53 48 true (.ld false 1 (.t 52)),
  o2 54 48 true (.len (.t 53)),
  o2 55 48 true (.bin .eql (.t 54) (.i 0)),
  o1 56 (.pick (.t 48) (.t 55) (.c (.bool false)))]
def r63_10 : List MOper := [o1 10 (.mov (.c (.bool false)))]
def r63_11 : List MOper := [o1 57 (.bin .add (.t 32) (.i 1)),
  o1 32 (.mov (.t 57))]
def b63_1 : MCode := .seq (.reg false r63_7 [1, 2, 4, 5, 11, 12, 31, 32, 33])
 (.seq (.cond 33 (.skip) (.exit 0))
 (.seq (.block 1 (.seq (.reg false r63_8 [1, 2, 4, 5, 11, 12, 13, 31, 32])
 (.seq (.reg false r63_9 [1, 2, 4, 5, 11, 12, 31, 32, 56])
 (.cond 56 (.seq (.reg false r63_10 [10])
 (.ret)) (.skip)))))
 (.reg false r63_11 [1, 2, 4, 5, 11, 12, 31, 32])))
def r63_12 : List MOper := [o1 58 (.fld 1 (.t 11)),
  o1 59 (.ld false 1 (.t 58)),
  o1 60 (.mov (.t 1)),
  o1 61 (.mov (.t 4)),
  o1 62 (.mov (.t 2)),
  o1 63 (.bin .sub (.i 1) (.t 62)),
  o1 64 (.call 125 [(.t 59), (.t 60), (.t 61), (.t 63)]),
  o1 10 (.mov (.t 64))]
def c63 : MCode := .seq (.reg false r63_1 [1, 2, 3, 4, 5])
 (.seq (.seq (.reg false r63_2 [1, 2, 3, 4, 5, 22])
 (.cond 22 (.seq (.reg false r63_3 [10])
 (.ret)) (.skip)))
 (.seq (.reg false r63_4 [1, 2, 4, 5, 11])
 (.seq (.reg false r63_5 [1, 2, 4, 5, 11, 12])
 (.seq (.seq (.reg false r63_6 [1, 2, 4, 5, 11, 12, 31, 32])
 (.block 0 (.loop [1, 2, 4, 5, 11, 12, 31, 32] b63_1)))
 (.seq (.reg false r63_12 [10])
 (.ret))))))
def m63 : MFunc := ⟨3, [.tmp 10], c63⟩
def r64_1 : List MOper := [o1 6 (.mov (.c (.bool false)))]
def r64_2 : List MOper := [o1 7 (.mov (.t 0)),
  o1 8 (.call 126 [(.t 7)]),
  o1 9 (.mov (.t 8)),
  o2 10 9 true (.mov (.t 1)),
  o2 11 9 true (.len (.t 10)),
  o2 12 9 true (.mov (.t 0)),
  o2 13 9 true (.len (.t 12)),
  o2 14 9 true (.bin .eql (.t 11) (.t 13)),
  o1 15 (.pick (.t 9) (.t 14) (.c (.bool false))),
  o1 16 (.mov (.t 15)),
  o2 17 16 true (.mov (.t 0)),
  o2 18 16 true (.mov (.t 1)),
  o2 19 16 true (.mov (.t 0)),
  o2 20 16 true (.mov (.t 2)),
  o2 21 16 true (.call 127 [(.t 19), (.t 20)]),
  o2 22 16 true (.call 121 [(.t 17), (.t 18), (.t 21)]),
  o1 23 (.pick (.t 16) (.t 22) (.c (.bool false))),
  o1 6 (.mov (.t 23))]
def c64 : MCode := .seq (.reg false r64_1 [0, 1, 2])
 (.seq (.reg false r64_2 [6])
 (.ret))
def m64 : MFunc := ⟨3, [.tmp 6], c64⟩
def r65_1 : List MOper := [o1 6 (.mov (.c (.bool false)))]
def r65_2 : List MOper := [o1 7 (.mov (.t 0)),
  o1 8 (.call 114 [(.t 7)]),
  o1 9 (.not (.t 8)),
  o1 10 (.mov (.t 9)),
  o2 11 10 false (.mov (.t 1)),
  o2 12 10 false (.len (.t 11)),
  o2 13 10 false (.mov (.t 0)),
  o2 14 10 false (.len (.t 13)),
  o2 15 10 false (.bin .neq (.t 12) (.t 14)),
  o1 16 (.pick (.t 10) (.c (.bool true)) (.t 15))]
def r65_3 : List MOper := [o1 6 (.mov (.c (.bool false)))]
def r65_4 : List MOper := [o1 17 (.mov (.t 0)),
  o1 18 (.mov (.t 1)),
  o1 19 (.mov (.t 2)),
  o1 20 (.call 125 [(.t 17), (.t 18), (.t 19), (.i 0)]),
  o1 6 (.mov (.t 20))]
def c65 : MCode := .seq (.reg false r65_1 [0, 1, 2])
 (.seq (.seq (.reg false r65_2 [0, 1, 2, 16])
 (.cond 16 (.seq (.reg false r65_3 [6])
 (.ret)) (.skip)))
 (.seq (.reg false r65_4 [6])
 (.ret)))
def m65 : MFunc := ⟨3, [.tmp 6], c65⟩
def r66_1 : List MOper := [o1 0 (.mov (.c (.bool false)))]
def r66_2 : List MOper := [o1 4 (.bsl false 1 [(.i 0), (.i 1), (.i 1)]),
  o1 5 (.bsl false 1 [(.i 1)]),
  o1 6 (.bsl false 1 [(.i 0), (.i 2)]),
  o1 7 (.bsl false 1 [(.i 2)]),
  o1 8 (.bsl false 1 [(.t 5), (.t 6), (.t 7)]),
  o1 9 (.build [.fz .isnil 1 [], .fz .isnil 1 []] [] [(0, 1, (.t 4)), (1, 1, (.t 8))]),
  o1 1 (.alloc [.fz .isnil 1 [], .fz .isnil 1 []] []),
  n1 (.st 2 (.t 1) (.t 9))]
def r66_3 : List MOper := [o1 10 (.ld true 2 (.t 1)),
  o1 11 (.bsl false 1 [(.c (.bool true))]),
  o1 12 (.bsl false 1 [(.t 11)]),
  o1 13 (.call 58 [(.t 10), (.c (.fz .isnil 1 [])), (.t 12)]),
  o1 2 (.mov (.t 13))]
def r66_4 : List MOper := [o1 14 (.ld true 2 (.t 1)),
  o1 15 (.bsl false 1 [(.c (.bool true))]),
  o1 16 (.bsl false 1 [(.t 15)]),
  o1 17 (.bsl false 1 [(.c (.fz .isnil 1 []))]),
  o1 18 (.call 58 [(.t 14), (.t 16), (.t 17)]),
  o1 3 (.mov (.t 18))]
def r66_5 : List MOper := [o1 19 (.mov (.t 2)),
  o1 20 (.len (.t 19)),
  o1 21 (.bin .eql (.t 20) (.i 3)),
  o1 22 (.mov (.t 21)),
  o2 23 22 true (.mov (.t 2)),
  o2 24 22 true (.ixs 1 (.t 23) (.i 0)),
  o2 25 22 true (.ld false 1 (.t 24)),
  o1 26 (.pick (.t 22) (.t 25) (.c (.bool false))),
  o1 27 (.mov (.t 26)),
  o2 28 27 true (.mov (.t 2)),
  o2 29 27 true (.ixs 1 (.t 28) (.i 1)),
  o2 30 27 true (.ld false 1 (.t 29)),
  o1 31 (.pick (.t 27) (.t 30) (.c (.bool false))),
  o1 32 (.mov (.t 31)),
  o2 33 32 true (.mov (.t 2)),
  o2 34 32 true (.ixs 1 (.t 33) (.i 2)),
  o2 35 32 true (.ld false 1 (.t 34)),
  o2 36 32 true (.not (.t 35)),
  o1 37 (.pick (.t 32) (.t 36) (.c (.bool false))),
  o1 38 (.mov (.t 37)),
  o2 39 38 true (.mov (.t 3)),
  o2 40 38 true (.len (.t 39)),
  o2 41 38 true (.bin .eql (.t 40) (.i 3)),
  o1 42 (.pick (.t 38) (.t 41) (.c (.bool false))),
  o1 43 (.mov (.t 42)),
  o2 44 43 true (.mov (.t 3)),
  o2 45 43 true (.ixs 1 (.t 44) (.i 0)),
  o2 46 43 true (.ld false 1 (.t 45)),
  o1 47 (.pick (.t 43) (.t 46) (.c (.bool false))),
  o1 48 (.mov (.t 47)),
  o2 49 48 true (.mov (.t 3)),
  o2 50 48 true (.ixs 1 (.t 49) (.i 2)),
  o2 51 48 true (.ld false 1 (.t 50)),
  o1 52 (.pick (.t 48) (.t 51) (.c (.bool false))),
  o1 0 (.mov (.t 52))]
def c66 : MCode := .seq (.reg false r66_1 [])
 (.seq (.reg false r66_2 [1])
 (.seq (.reg false r66_3 [1, 2])
 (.seq (.reg false r66_4 [2, 3])
 (.seq (.reg false r66_5 [0])
 (.ret)))))
def m66 : MFunc := ⟨3, [.tmp 0], c66⟩
def r67_1 : List MOper := [o1 3 (.box (.t 0)),
  o1 6 (.mov (.c (.fz .isnil 1 [])))]
def r67_2 : List MOper := [o1 9 (.ld true 2 (.t 3)),
  o1 10 (.call 35 [(.t 9)]),
  o1 11 (.bin .neq (.t 10) (.i 0)),
  o1 12 (.mov (.t 11)),
  o2 13 12 false (.mov (.t 1)),
  o2 14 12 false (.call 122 [(.t 13)]),
  o2 15 12 false (.not (.t 14)),
  o1 16 (.pick (.t 12) (.c (.bool true)) (.t 15))]
def r67_3 : List MOper := [o1 6 (.mov (.c (.fz .isnil 1 [])))]
def r67_4 : List MOper := [o1 17 (.ld true 2 (.t 3)),
  o1 18 (.mov (.t 2)),
  o1 19 (.call 112 [(.t 17), (.t 18)]),
  o1 7 (.mov (.t 19))]
def r67_5 : List MOper := [o1 20 (.mov (.t 7)),
  o1 21 (.ld true 2 (.t 3)),
  o1 22 (.mov (.t 1)),
  o1 23 (.mov (.t 7)),
  o1 24 (.call 113 [(.t 21), (.t 22), (.t 23)]),
  o1 25 (.call 111 [(.t 20), (.t 24)]),
  o1 8 (.mov (.t 25))]
def r67_6 : List MOper := [o1 26 (.mov (.t 7)),
  o1 27 (.mov (.t 8)),
  o1 28 (.call 32 [(.t 26), (.t 27)])]
def r67_7 : List MOper := [o1 29 (.mov (.t 7)),
  o1 6 (.mov (.t 29))]
def r67_8 : List MOper := [o1 30 (.mov (.t 8)),
  o1 7 (.mov (.t 30))]
def b67_1 : MCode := .block 1 (.seq (.reg false r67_5 [1, 3, 7, 8])
 (.seq (.seq (.reg false r67_6 [1, 3, 7, 8, 28])
 (.cond 28 (.seq (.reg false r67_7 [6])
 (.ret)) (.skip)))
 (.reg false r67_8 [1, 3, 7])))
def c67 : MCode := .seq (.reg false r67_1 [1, 2, 3])
 (.seq (.seq (.reg false r67_2 [1, 2, 3, 16])
 (.cond 16 (.seq (.reg false r67_3 [6])
 (.ret)) (.skip)))
 (.seq (.reg false r67_4 [1, 3, 7])
 (.block 0 (.loop [1, 3, 7] b67_1))))
def m67 : MFunc := ⟨3, [.tmp 6], c67⟩
def r68_1 : List MOper := [o1 3 (.box (.t 0)),
  o1 4 (.box (.t 1)),
  o1 5 (.box (.t 2)),
  o1 6 (.mov (.c (.fz .isnil 1 [])))]
def r68_2 : List MOper := [o1 7 (.ld true 2 (.t 3)),
  o1 8 (.mkfn 128 [] [(.t 4), (.t 5)]),
  o1 9 (.call 1097 [(.t 7), (.t 8)]),
  o1 6 (.mov (.t 9))]
def c68 : MCode := .seq (.reg false r68_1 [3, 4, 5])
 (.seq (.reg false r68_2 [6])
 (.ret))
def m68 : MFunc := ⟨3, [.tmp 6], c68⟩
def r69_1 : List MOper := [o1 1 (.box (.t 0)),
  o1 2 (.mov (.i 0))]
def r69_2 : List MOper := [o1 6 (.fld 0 (.t 1)),
  o1 7 (.ld false 1 (.t 6)),
  o1 8 (.len (.t 7)),
  o1 9 (.bin .gtr (.t 8) (.i 3000)),
  o1 5 (.mov (.t 9))]
def r69_3 : List MOper := [o1 2 (.mov (.i 7))]
def r69_4 : List MOper := [o1 11 (.fld 1 (.t 1)),
  o1 12 (.ld false 1 (.t 11)),
  o1 13 (.len (.t 12)),
  o1 14 (.fld 0 (.t 1)),
  o1 15 (.ld false 1 (.t 14)),
  o1 16 (.len (.t 15)),
  o1 17 (.bin .neq (.t 13) (.t 16)),
  o1 10 (.mov (.t 17))]
def r69_5 : List MOper := [o1 2 (.mov (.i 1))]
def r69_6 : List MOper := [o1 18 (.fld 0 (.t 1)),
  o1 19 (.ld false 1 (.t 18)),
  o1 20 (.len (.t 19)),
  o1 21 (.mov (.i 0))]
def r69_7 : List MOper := [o1 22 (.bin .lss (.t 21) (.t 20))]
def r69_8 : List MOper := [o1 23 (.mov (.t 21)),
  o1 24 (.ixs 1 (.t 19) (.t 21)),
  o1 25 (.ld false 1 (.t 24)),
  o1 3 (.mov (.t 23)),
  o1 4 (.mov (.t 25))]
def q69_9 : List MOper := [o1 26 (.mov (.t 4)),
  o1 27 (.bin .neq (.t 26) (.i 0)),
  o1 28 (.mov (.t 27)),
  o2 29 28 true (.mov (.t 4)),
  o2 30 28 true (.bin .neq (.t 29) (.i 1)),
  o1 31 (.pick (.t 28) (.t 30) (.c (.bool false))),
  o1 32 (.mov (.t 31)),
  o2 33 32 false (.fld 1 (.t 1)),
  ox (some 34) (some (32, false)) .R false (.ld false 1 (.t 33)),
  o2 35 32 false (.mov (.t 3)),
  o2 36 32 false (.ixs 1 (.t 34) (.t 35)),
  ox (some 37) (some (32, false)) .R false (.ld false 1 (.t 36)),
  o2 38 32 false (.fld 0 (.t 1)),
  ox (some 39) (some (32, false)) .R false (.ld false 1 (.t 38)),
  o2 40 32 false (.len (.t 39)),
  ox (some 41) (some (32, false)) .R false (.call 129 [(.t 37), (.t 40)]),
  o2 42 32 false (.not (.t 41)),
  o1 43 (.pick (.t 32) (.c (.bool true)) (.t 42))]
def r69_9 : List MOper := q69_9
def r69_10 : List MOper := [o1 2 (.mov (.i 1))]
def r69_11 : List MOper := [o1 44 (.bin .add (.t 21) (.i 1)),
  o1 21 (.mov (.t 44))]
def b69_1 : MCode := .seq (.reg false r69_7 [1, 19, 20, 21, 22])
 (.seq (.cond 22 (.skip) (.exit 1))
 (.seq (.block 2 (.seq (.reg false r69_8 [1, 3, 4, 19, 20, 21])
 (.seq (.reg true r69_9 [1, 19, 20, 21, 43])
 (.cond 43 (.seq (.reg false r69_10 [2])
 (.ret)) (.skip)))))
 (.reg false r69_11 [1, 19, 20, 21])))
def r69_12 : List MOper := [o1 2 (.mov (.i 0))]
def c69 : MCode := .seq (.reg false r69_1 [1])
 (.seq (.block 0 (.seq (.reg false r69_2 [1, 5])
 (.cond 5 (.seq (.reg false r69_3 [2])
 (.ret)) (.seq (.reg false r69_4 [1, 10])
 (.cond 10 (.seq (.reg false r69_5 [2])
 (.ret)) (.skip))))))
 (.seq (.seq (.reg false r69_6 [1, 19, 20, 21])
 (.block 1 (.loop [1, 19, 20, 21] b69_1)))
 (.seq (.reg false r69_12 [2])
 (.ret))))
def m69 : MFunc := ⟨3, [.tmp 2], c69⟩
def r70_1 : List MOper := [o1 3 (.box (.t 0)),
  o1 6 (.mov (.c (.fz .isnil 1 [])))]
def r70_2 : List MOper := [o1 14 (.ld true 2 (.t 3)),
  o1 15 (.mov (.t 1)),
  o1 16 (.mov (.t 2)),
  o1 17 (.call 37 [(.t 14), (.t 15), (.t 16)]),
  o1 7 (.mov (.t 17))]
def r70_3 : List MOper := [o1 18 (.mov (.t 7)),
  o1 19 (.isn (.t 18))]
def r70_4 : List MOper := [o1 6 (.mov (.c (.fz .isnil 1 [])))]
def q70_5 : List MOper := [ox (some 20) none .R false (.ld true 2 (.t 3)),
  o1 21 (.mov (.t 2)),
  ox (some 22) none .R false (.ld true 2 (.t 3)),
  o1 23 (.mov (.t 1)),
  o1 24 (.mov (.t 7)),
  ox (some 25) none .R false (.call 39 [(.t 22), (.t 23), (.t 24)]),
  ox (some 26) none .R false (.call 40 [(.t 20), (.t 21), (.t 25)]),
  o1 8 (.mov (.t 26))]
def r70_5 : List MOper := q70_5
def r70_6 : List MOper := [o1 27 (.ld true 2 (.t 3)),
  o1 28 (.mov (.t 1)),
  o1 29 (.mov (.t 8)),
  o1 30 (.call 1130 [(.t 27), (.t 28), (.t 29)]),
  o1 9 (.mov (.t 30))]
def r70_7 : List MOper := [o1 31 (.mov (.t 8)),
  o1 32 (.len (.t 31)),
  o1 33 (.mov (.i 0))]
def r70_8 : List MOper := [o1 34 (.bin .lss (.t 33) (.t 32))]
def r70_9 : List MOper := [o1 35 (.mov (.t 33)),
  o1 36 (.ixs 1 (.t 31) (.t 33)),
  o1 37 (.ld false 1 (.t 36)),
  o1 10 (.mov (.t 35)),
  o1 11 (.mov (.t 37))]
def r70_10 : List MOper := [o1 38 (.mov (.t 11)),
  o1 39 (.not (.t 38)),
  o1 40 (.mov (.t 39)),
  o2 41 40 false (.fld 0 (.t 3)),
  o2 42 40 false (.ld false 1 (.t 41)),
  o2 43 40 false (.mov (.t 10)),
  o2 44 40 false (.ixs 1 (.t 42) (.t 43)),
  o2 45 40 false (.ld false 1 (.t 44)),
  o2 46 40 false (.mov (.t 1)),
  o2 47 40 false (.bin .neq (.t 45) (.t 46)),
  o1 48 (.pick (.t 40) (.c (.bool true)) (.t 47))]
def r70_11 : List MOper := [o1 49 (.fld 1 (.t 3)),
  o1 50 (.ld false 1 (.t 49)),
  o1 51 (.mov (.t 10)),
  o1 52 (.ixs 1 (.t 50) (.t 51)),
  o1 53 (.ld false 1 (.t 52)),
  o1 54 (.len (.t 53)),
  o1 55 (.mov (.i 0))]
def r70_12 : List MOper := [o1 56 (.bin .lss (.t 55) (.t 54))]
def r70_13 : List MOper := [o1 57 (.ixs 1 (.t 53) (.t 55)),
  o1 58 (.ld false 1 (.t 57)),
  o1 13 (.mov (.t 58))]
def r70_14 : List MOper := [o1 59 (.mov (.t 7)),
  o1 60 (.mov (.t 13)),
  o1 61 (.ixs 1 (.t 59) (.t 60)),
  o1 62 (.ld false 1 (.t 61))]
def r70_15 : List MOper := [o1 63 (.mov (.t 9)),
  o1 64 (.mov (.t 10)),
  o1 65 (.mov (.t 13)),
  o1 66 (.ixs 1 (.t 63) (.t 64)),
  n1 (.st 1 (.t 66) (.t 65))]
def r70_16 : List MOper := [o1 67 (.bin .add (.t 55) (.i 1)),
  o1 55 (.mov (.t 67))]
def b70_2 : MCode := .seq (.reg false r70_12 [1, 3, 7, 9, 10, 31, 32, 33, 53, 54, 55, 56])
 (.seq (.cond 56 (.skip) (.exit 2))
 (.seq (.block 3 (.seq (.reg false r70_13 [1, 3, 7, 9, 10, 13, 31, 32, 33, 53, 54, 55])
 (.seq (.reg false r70_14 [1, 3, 7, 9, 10, 13, 31, 32, 33, 53, 54, 55, 62])
 (.cond 62 (.seq (.reg false r70_15 [1, 3, 7, 9, 31, 32, 33])
 (.exit 2)) (.skip)))))
 (.reg false r70_16 [1, 3, 7, 9, 10, 31, 32, 33, 53, 54, 55])))
def r70_17 : List MOper := [o1 68 (.bin .add (.t 33) (.i 1)),
  o1 33 (.mov (.t 68))]
def b70_1 : MCode := .seq (.reg false r70_8 [1, 3, 7, 9, 31, 32, 33, 34])
 (.seq (.cond 34 (.skip) (.exit 0))
 (.seq (.block 1 (.seq (.reg false r70_9 [1, 3, 7, 9, 10, 11, 31, 32, 33])
 (.seq (.seq (.reg false r70_10 [1, 3, 7, 9, 10, 31, 32, 33, 48])
 (.cond 48 (.exit 1) (.skip)))
 (.seq (.reg false r70_11 [1, 3, 7, 9, 10, 31, 32, 33, 53, 54, 55])
 (.block 2 (.loop [1, 3, 7, 9, 10, 31, 32, 33, 53, 54, 55] b70_2))))))
 (.reg false r70_17 [1, 3, 7, 9, 31, 32, 33])))
def r70_18 : List MOper := [o1 69 (.mov (.t 9)),
  o1 6 (.mov (.t 69))]
def c70 : MCode := .seq (.reg false r70_1 [1, 2, 3])
 (.seq (.reg false r70_2 [1, 2, 3, 7])
 (.seq (.seq (.reg false r70_3 [1, 2, 3, 7, 19])
 (.cond 19 (.seq (.reg false r70_4 [6])
 (.ret)) (.skip)))
 (.seq (.reg true r70_5 [1, 3, 7, 8])
 (.seq (.reg false r70_6 [1, 3, 7, 8, 9])
 (.seq (.seq (.reg false r70_7 [1, 3, 7, 9, 31, 32, 33])
 (.block 0 (.loop [1, 3, 7, 9, 31, 32, 33] b70_1)))
 (.seq (.reg false r70_18 [6])
 (.ret)))))))
def m70 : MFunc := ⟨3, [.tmp 6], c70⟩
def r71_1 : List MOper := [o1 0 (.mov (.c (.bool false)))]
def r71_2 : List MOper := [o1 6 (.bsl false 1 [(.i 0), (.i 1)]),
  o1 7 (.bsl false 1 [(.i 0), (.i 1)]),
  o1 8 (.bsl false 1 [(.i 1)]),
  o1 9 (.bsl false 1 [(.t 7), (.t 8)]),
  o1 10 (.build [.fz .isnil 1 [], .fz .isnil 1 []] [] [(0, 1, (.t 6)), (1, 1, (.t 9))]),
  o1 1 (.alloc [.fz .isnil 1 [], .fz .isnil 1 []] []),
  n1 (.st 2 (.t 1) (.t 10))]
def r71_3 : List MOper := [o1 12 (.ld true 2 (.t 1)),
  o1 13 (.bsl false 1 [(.i 1), (.i 2)]),
  o1 14 (.call 72 [(.t 12), (.t 13)]),
  o1 11 (.mov (.t 14)),
  o1 15 (.ext (.t 11) 0),
  o1 16 (.ext (.t 11) 1),
  o1 2 (.mov (.t 15)),
  o1 3 (.mov (.t 16))]
def r71_4 : List MOper := [o1 18 (.ld true 2 (.t 1)),
  o1 19 (.bsl false 1 [(.i 2), (.i 2)]),
  o1 20 (.call 72 [(.t 18), (.t 19)]),
  o1 17 (.mov (.t 20)),
  o1 21 (.ext (.t 17) 0),
  o1 22 (.ext (.t 17) 1),
  o1 4 (.mov (.t 21)),
  o1 5 (.mov (.t 22))]
def r71_5 : List MOper := [o1 23 (.mov (.t 2)),
  o1 24 (.len (.t 23)),
  o1 25 (.bin .eql (.t 24) (.i 2)),
  o1 26 (.mov (.t 25)),
  o2 27 26 true (.mov (.t 2)),
  o2 28 26 true (.ixs 1 (.t 27) (.i 0)),
  o2 29 26 true (.ld false 1 (.t 28)),
  o2 30 26 true (.bin .eql (.t 29) (.i 0)),
  o1 31 (.pick (.t 26) (.t 30) (.c (.bool false))),
  o1 32 (.mov (.t 31)),
  o2 33 32 true (.mov (.t 2)),
  o2 34 32 true (.ixs 1 (.t 33) (.i 1)),
  o2 35 32 true (.ld false 1 (.t 34)),
  o2 36 32 true (.bin .eql (.t 35) (.i 1)),
  o1 37 (.pick (.t 32) (.t 36) (.c (.bool false))),
  o1 38 (.mov (.t 37)),
  o2 39 38 true (.mov (.t 3)),
  o2 40 38 true (.len (.t 39)),
  o2 41 38 true (.bin .eql (.t 40) (.i 2)),
  o1 42 (.pick (.t 38) (.t 41) (.c (.bool false))),
  o1 43 (.mov (.t 42)),
  o2 44 43 true (.mov (.t 3)),
  o2 45 43 true (.ixs 1 (.t 44) (.i 0)),
  o2 46 43 true (.ld false 1 (.t 45)),
  o2 47 43 true (.bin .eql (.t 46) (.i 0)),
  o1 48 (.pick (.t 43) (.t 47) (.c (.bool false))),
  o1 49 (.mov (.t 48)),
  o2 50 49 true (.mov (.t 3)),
  o2 51 49 true (.ixs 1 (.t 50) (.i 1)),
  o2 52 49 true (.ld false 1 (.t 51)),
  o2 53 49 true (.bin .eql (.t 52) (.i 1)),
  o1 54 (.pick (.t 49) (.t 53) (.c (.bool false))),
  o1 55 (.mov (.t 54)),
  o2 56 55 true (.mov (.t 4)),
  o2 57 55 true (.len (.t 56)),
  o2 58 55 true (.bin .eql (.t 57) (.i 2)),
  o1 59 (.pick (.t 55) (.t 58) (.c (.bool false))),
  o1 60 (.mov (.t 59)),
  o2 61 60 true (.mov (.t 4)),
  o2 62 60 true (.ixs 1 (.t 61) (.i 0)),
  o2 63 60 true (.ld false 1 (.t 62)),
  o2 64 60 true (.bin .eql (.t 63) (.i 1)),
  o1 65 (.pick (.t 60) (.t 64) (.c (.bool false))),
  o1 0 (.mov (.t 65))]
def c71 : MCode := .seq (.reg false r71_1 [])
 (.seq (.reg false r71_2 [1])
 (.seq (.reg false r71_3 [1, 2, 3])
 (.seq (.reg false r71_4 [2, 3, 4])
 (.seq (.reg false r71_5 [0])
 (.ret)))))
def m71 : MFunc := ⟨3, [.tmp 0], c71⟩
def r72_1 : List MOper := [o1 2 (.box (.t 0)),
  o1 4 (.mov (.c (.fz .isnil 1 []))),
  o1 5 (.mov (.c (.fz .isnil 1 [])))]
def r72_2 : List MOper := [o1 16 (.ld true 2 (.t 2)),
  o1 17 (.mov (.t 1)),
  o1 18 (.call 73 [(.t 16), (.t 17)]),
  o1 19 (.not (.t 18))]
def r72_3 : List MOper := [o1 4 (.mov (.c (.fz .isnil 1 []))),
  o1 5 (.mov (.c (.fz .isnil 1 [])))]
def q72_4 : List MOper := [ox (some 20) none .R false (.ld true 2 (.t 2)),
  o1 21 (.mov (.t 1)),
  o1 22 (.mov (.t 1)),
  o1 23 (.len (.t 22)),
  ox (some 24) none .A false (.mksl 1 (.int .i64 0) (.t 23)),
  o1 25 (.mov (.t 1)),
  o1 26 (.len (.t 25)),
  ox (some 27) none .A false (.mksl 1 (.int .i64 0) (.t 26)),
  ox (some 28) none .L false (.build [.fz .isnil 1 [], .fz .isnil 1 [], .fz .isnil 1 [], .fz .isnil 1 [], .fz .isnil 1 [], .fz .isnil 1 []] [(5, 1)] [(0, 2, (.t 20)), (2, 1, (.t 21)), (3, 1, (.t 24)), (4, 1, (.t 27))]),
  ox (some 29) none .L false (.box (.t 28)),
  o1 6 (.mov (.t 29))]
def r72_4 : List MOper := q72_4
def r72_5 : List MOper := [o1 30 (.mov (.t 6)),
  o1 31 (.nilck (.t 30)),
  o1 32 (.fld 4 (.t 31)),
  o1 33 (.ld false 1 (.t 32)),
  o1 34 (.len (.t 33)),
  o1 35 (.mov (.i 0))]
def r72_6 : List MOper := [o1 36 (.bin .lss (.t 35) (.t 34))]
def r72_7 : List MOper := [o1 37 (.mov (.t 35)),
  o1 7 (.mov (.t 37))]
def r72_8 : List MOper := [o1 38 (.mov (.t 6)),
  o1 39 (.nilck (.t 38)),
  o1 40 (.fld 4 (.t 39)),
  o1 41 (.ld false 1 (.t 40)),
  o1 42 (.mov (.t 7)),
  o1 43 (.ixs 1 (.t 41) (.t 42)),
  n1 (.st 1 (.t 43) (.i (-1)))]
def r72_9 : List MOper := [o1 44 (.bin .add (.t 35) (.i 1)),
  o1 35 (.mov (.t 44))]
def b72_1 : MCode := .seq (.reg false r72_6 [2, 6, 34, 35, 36])
 (.seq (.cond 36 (.skip) (.exit 0))
 (.seq (.block 1 (.seq (.reg false r72_7 [2, 6, 7, 34, 35])
 (.reg false r72_8 [2, 6, 34, 35])))
 (.reg false r72_9 [2, 6, 34, 35])))
def r72_10 : List MOper := [o1 45 (.ld true 2 (.t 2)),
  o1 46 (.call 41 [(.t 45), (.c (.fz .isnil 1 []))]),
  o1 8 (.mov (.t 46))]
def r72_11 : List MOper := [o1 47 (.bsl false 1 [(.i 1), (.i 0)]),
  o1 48 (.len (.t 47)),
  o1 49 (.mov (.i 0))]
def r72_12 : List MOper := [o1 50 (.bin .lss (.t 49) (.t 48))]
def r72_13 : List MOper := [o1 51 (.ixs 1 (.t 47) (.t 49)),
  o1 52 (.ld false 1 (.t 51)),
  o1 10 (.mov (.t 52))]
def r72_14 : List MOper := [o1 53 (.ld true 2 (.t 2)),
  o1 54 (.mov (.t 10)),
  o1 55 (.call 95 [(.t 53), (.t 54), (.c (.fz .isnil 1 []))]),
  o1 11 (.mov (.t 55))]
def r72_15 : List MOper := [o1 56 (.ld true 2 (.t 2)),
  o1 57 (.mov (.t 10)),
  o1 58 (.call 130 [(.t 56), (.t 57), (.c (.fz .isnil 1 []))]),
  o1 59 (.len (.t 58)),
  o1 60 (.mov (.i 0))]
def r72_16 : List MOper := [o1 61 (.bin .lss (.t 60) (.t 59))]
def r72_17 : List MOper := [o1 62 (.mov (.t 60)),
  o1 63 (.ixs 1 (.t 58) (.t 60)),
  o1 64 (.ld false 1 (.t 63)),
  o1 12 (.mov (.t 62)),
  o1 13 (.mov (.t 64))]
def r72_18 : List MOper := [o1 65 (.mov (.t 11)),
  o1 66 (.mov (.t 12)),
  o1 67 (.ixs 1 (.t 65) (.t 66)),
  o1 68 (.ld false 1 (.t 67)),
  o1 69 (.mov (.t 68)),
  o2 70 69 true (.mov (.t 13)),
  o2 71 69 true (.bin .geq (.t 70) (.i 0)),
  o1 72 (.pick (.t 69) (.t 71) (.c (.bool false)))]
def r72_19 : List MOper := [o1 73 (.mov (.t 6)),
  o1 74 (.nilck (.t 73)),
  o1 75 (.fld 4 (.t 74)),
  o1 76 (.ld false 1 (.t 75)),
  o1 77 (.mov (.t 12)),
  o1 78 (.mov (.t 13)),
  o1 79 (.ixs 1 (.t 76) (.t 77)),
  n1 (.st 1 (.t 79) (.t 78))]
def r72_20 : List MOper := [o1 80 (.bin .add (.t 60) (.i 1)),
  o1 60 (.mov (.t 80))]
def b72_3 : MCode := .seq (.reg false r72_16 [2, 6, 8, 10, 11, 47, 48, 49, 58, 59, 60, 61])
 (.seq (.cond 61 (.skip) (.exit 4))
 (.seq (.block 5 (.seq (.reg false r72_17 [2, 6, 8, 10, 11, 12, 13, 47, 48, 49, 58, 59, 60])
 (.seq (.reg false r72_18 [2, 6, 8, 10, 11, 12, 13, 47, 48, 49, 58, 59, 60, 72])
 (.cond 72 (.reg false r72_19 [2, 6, 8, 10, 11, 47, 48, 49, 58, 59, 60]) (.skip)))))
 (.reg false r72_20 [2, 6, 8, 10, 11, 47, 48, 49, 58, 59, 60])))
def r72_21 : List MOper := [o1 81 (.mov (.t 6)),
  o1 82 (.mov (.t 10)),
  o1 83 (.mov (.t 11)),
  o1 84 (.call 131 [(.t 81), (.t 82), (.t 83)])]
def r72_22 : List MOper := [o1 85 (.mov (.t 6)),
  o1 86 (.mov (.t 8)),
  o1 87 (.mov (.t 11)),
  o1 88 (.call 132 [(.t 85), (.t 86), (.t 87)]),
  o1 8 (.mov (.t 88))]
def r72_23 : List MOper := [o1 89 (.bin .add (.t 49) (.i 1)),
  o1 49 (.mov (.t 89))]
def b72_2 : MCode := .seq (.reg false r72_12 [2, 6, 8, 47, 48, 49, 50])
 (.seq (.cond 50 (.skip) (.exit 2))
 (.seq (.block 3 (.seq (.reg false r72_13 [2, 6, 8, 10, 47, 48, 49])
 (.seq (.reg false r72_14 [2, 6, 8, 10, 11, 47, 48, 49])
 (.seq (.seq (.reg false r72_15 [2, 6, 8, 10, 11, 47, 48, 49, 58, 59, 60])
 (.block 4 (.loop [2, 6, 8, 10, 11, 47, 48, 49, 58, 59, 60] b72_3)))
 (.seq (.reg false r72_21 [2, 6, 8, 11, 47, 48, 49])
 (.reg false r72_22 [2, 6, 8, 47, 48, 49]))))))
 (.reg false r72_23 [2, 6, 8, 47, 48, 49])))
def r72_24 : List MOper := [o1 90 (.mov (.t 6)),
  o1 91 (.mov (.t 8)),
  o1 92 (.call 133 [(.t 90), (.t 91)])]
def r72_25 : List MOper := [o1 93 (.mov (.t 6)),
  o1 94 (.call 134 [(.t 93)])]
def r72_26 : List MOper := [o1 95 (.mov (.t 6)),
  o1 96 (.nilck (.t 95)),
  o1 97 (.fld 3 (.t 96)),
  o1 98 (.ld false 1 (.t 97)),
  o1 99 (.len (.t 98)),
  o1 100 (.mov (.i 0))]
def r72_27 : List MOper := [o1 101 (.bin .lss (.t 100) (.t 99))]
def r72_28 : List MOper := [o1 102 (.mov (.t 100)),
  o1 103 (.ixs 1 (.t 98) (.t 100)),
  o1 104 (.ld false 1 (.t 103)),
  o1 14 (.mov (.t 102)),
  o1 15 (.mov (.t 104))]
def r72_29 : List MOper := [o1 105 (.mov (.t 15)),
  o1 106 (.fld 0 (.t 2)),
  o1 107 (.ld false 1 (.t 106)),
  o1 108 (.mov (.t 14)),
  o1 109 (.ixs 1 (.t 107) (.t 108)),
  o1 110 (.ld false 1 (.t 109)),
  o1 111 (.bin .neq (.t 105) (.t 110))]
def r72_30 : List MOper := [o1 112 (.mov (.t 6)),
  o1 113 (.nilck (.t 112)),
  o1 114 (.fld 4 (.t 113)),
  o1 115 (.ld false 1 (.t 114)),
  o1 116 (.mov (.t 14)),
  o1 117 (.ixs 1 (.t 115) (.t 116)),
  n1 (.st 1 (.t 117) (.i (-1)))]
def r72_31 : List MOper := [o1 118 (.bin .add (.t 100) (.i 1)),
  o1 100 (.mov (.t 118))]
def b72_4 : MCode := .seq (.reg false r72_27 [2, 6, 98, 99, 100, 101])
 (.seq (.cond 101 (.skip) (.exit 6))
 (.seq (.block 7 (.seq (.reg false r72_28 [2, 6, 14, 15, 98, 99, 100])
 (.seq (.reg false r72_29 [2, 6, 14, 98, 99, 100, 111])
 (.cond 111 (.reg false r72_30 [2, 6, 98, 99, 100]) (.skip)))))
 (.reg false r72_31 [2, 6, 98, 99, 100])))
def q72_32 : List MOper := [o1 119 (.mov (.t 6)),
  o1 120 (.nilck (.t 119)),
  o1 121 (.fld 3 (.t 120)),
  ox (some 122) none .R false (.ld false 1 (.t 121)),
  o1 123 (.mov (.t 6)),
  o1 124 (.nilck (.t 123)),
  o1 125 (.fld 4 (.t 124)),
  ox (some 126) none .R false (.ld false 1 (.t 125)),
  o1 4 (.mov (.t 122)),
  o1 5 (.mov (.t 126))]
def r72_32 : List MOper := q72_32
def c72 : MCode := .seq (.reg false r72_1 [1, 2])
 (.seq (.seq (.reg false r72_2 [1, 2, 19])
 (.cond 19 (.seq (.reg false r72_3 [4, 5])
 (.ret)) (.skip)))
 (.seq (.reg true r72_4 [2, 6])
 (.seq (.seq (.reg false r72_5 [2, 6, 34, 35])
 (.block 0 (.loop [2, 6, 34, 35] b72_1)))
 (.seq (.reg false r72_10 [2, 6, 8])
 (.seq (.seq (.reg false r72_11 [2, 6, 8, 47, 48, 49])
 (.block 2 (.loop [2, 6, 8, 47, 48, 49] b72_2)))
 (.seq (.reg false r72_24 [2, 6])
 (.seq (.reg false r72_25 [2, 6])
 (.seq (.seq (.reg false r72_26 [2, 6, 98, 99, 100])
 (.block 6 (.loop [2, 6, 98, 99, 100] b72_4)))
 (.seq (.reg true r72_32 [4, 5])
 (.ret))))))))))
def m72 : MFunc := ⟨3, [.tmp 4, .tmp 5], c72⟩
end Go.Proofs.Ytlilfiekkaolkaa.Am
